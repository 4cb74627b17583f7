/- What the proof of MvsBelow leans on, part 4: Path5 Ref3 PathLaw Open Laid Op1 QuotePlain QuotePlain2 QuotePlain3 OpV Op2 Wld0 Ent1 Ent2 EntW TabW Wld1 Wld2 Wld3 Wld4 Wld5 Room Plc Crt Drp Mov SlcK Sts OpenW StW Sts2 StX Kep Stp Stp2 Stp3 Stp4 Deed Doo Dra1 Dra2 Rf4 Rf5 Rf6 Rf7 Op3 Op4 Op5 Ref19 Rf8 Snd2 Snd3 Snd4 Snd5 Snd6 Snd7 Rf9 Rf10 Grw Con Kit KitBytes QuoteWalk1 Builder. No condition beyond what each theorem states. -/
import Derived.Test.YtnpdbhbmakdklaaGreatDoorMvsBelowKc
import Derived.ProofKit
import Derived.Deep.Slices
import Derived.Deep.Fields
import Derived.ChangeSame
import Derived.ChangeOld
import Derived.Lib.SmallJoins
import Derived.Lib.LaidU8
import Derived.OpenShut
import Derived.FnData
import Derived.Lib.Bytealg
import Derived.WalkKit
import Derived.Lib.Hide
import Derived.Lib.Join
import Derived.Deep.Draws
import Derived.Lib.SlBytesRow
import Derived.StillTailTactics
import Derived.Test.YtnpdbhbmakdklaaGreatDoorProg
import Derived.WalkLawsBesides
import Derived.WalkSpells
import Derived.Shelf.Strings.Builder1
import Derived.Shelf.Strings.BuilderF
set_option linter.unusedVariables false
set_option linter.unusedSimpArgs false
set_option linter.unusedSectionVars false
set_option maxRecDepth 100000
set_option maxHeartbeats 4000000
namespace Go.Proofs.YtnpdbhbmakdklaaGreatDoor.Vcg
variable {l:List (Int×Int)} {x:zl} {P:Program} {f:FsV} {args:List C} {n:Int} {k i N:Nat} {xs:List zl} {α κ:Type} {S:List Int}
section
open Go.RowKit
def zgd (xs:List Lz):Int:=match xs.findIdx? (fun x=>!may x) with | some i=>(i:Int) | none=>-1
theorem ziY (xs:List Lz):decide (0<=zgd xs) = !xs.all may:=by
 unfold zgd;cases h:xs.findIdx? (fun x=>!may x) with
 | none =>
  have:=List.findIdx?_eq_none_iff.1 h;have h2:xs.all may=true:=Wt.2 fun x hx=>by simpa using this x hx
  rw[h2];rfl
 | some i =>
  have h1:=List.findIdx?_eq_some_iff_getElem.1 h;obtain ⟨hi,hp,_⟩:=h1;have h2:xs.all may=false:=List.all_eq_false.2 ⟨xs[i],WB hi,by simpa using hp⟩;rw[h2];simp
theorem Ga (xs:List Lz) (hx:xs.length<=1000001) (hl:∀ x∈xs,x.length<=1000000):Fun Tryz.prog G0 288 [.sl 1 (qg xs),.clo (.func 267) [] []] (.sc (.int .i64 (zgd xs))) 0:=by
 refine fon Tryz.func288 ?_;dsimp only[Tryz.f288];push_cast;refine loop (fun k:Nat=>⟨[(0,.sl 1 (qg xs)),(1,.clo (.func 267) [] []),(7,.sc (.int .i64 (xs.length:Int))),(8,.sc (.int .i64 k))],[],0,0⟩) (fun k=>k<=xs.length/\∀ j (hj:j<xs.length),j<k->may (xs[j]'hj)=true) (fun k=>xs.length-k) 0 ⟨Wd _,fun j _ hj=>by omega⟩ ?_ ?_
 ·exact wk
 ·intro k hk;have hk1:=hk.1;have hk2:=hk.2;by_cases h:k<xs.length
  ·have hg:(qg xs)[k]?=some [.str (xs[k]'h)]:=by rw[strs_get?,Wa h];rfl
   push_cast [h,hg];refine ⟨by omega,?_⟩;refine call (zaS (xs[k]'h) (hl _ (WB h))) ?_;push_cast;cases hm:may (xs[k]'h) with
   | true =>
    push_cast;refine ⟨by omega,k+1,⟨by omega,fun j hj hjk=>?_⟩,by omega,wk⟩;rcases Wq j k with g | g
    ·exact hk2 j hj g
    ·have:j=k:=by omega
     subst this;exact hm
   | false =>
    push_cast;refine ⟨[],rfl,rfl,?_⟩;push_cast [ze,zd,CLe,zg];have:xs.findIdx? (fun x=>!may x)=some k:=List.findIdx?_eq_some_iff_getElem.2 ⟨h,by simp[hm],fun j hj=>by simp[hk2 j (by omega) hj]⟩;simp[zgd,this]
  ·push_cast [h];refine ⟨[],rfl,rfl,?_⟩;push_cast [ze,zd,CLe,zg];have:xs.findIdx? (fun x=>!may x)=none:=List.findIdx?_eq_none_iff.2 fun x hx=>by
    obtain ⟨j,hj,rfl⟩:=WD hx;simp[hk2 j hj (by omega)]
   simp[zgd,this]
theorem Ui (xs:List Lz) (hx:xs.length<=1000001) (hl:∀ x∈xs,x.length<=1000000):Fun Tryz.prog G0 266 [.sl 1 (qg xs),.clo (.func 267) [] []] (qZ (!xs.all may)) 0:=by
 have h:=ziY xs;refine fon Tryz.func266 ?_;dsimp only[Tryz.f266];push_cast;refine call (Ga xs hx hl) ?_;push_cast;exact dn (by push_cast [ze,zd,CLe,zg,h])
def jE (p:Lz):Bool:=decide (qq (zn p)=p)&&(zn p).all may
def Yv (p:Lz):C:=.tup [.own 0 9 1 (qg (if jE p then zn p else [])),qZ (jE p)]
theorem jS (x y:Lz) (r:List Lz) (sep:Lz):Lib.join (x :: y :: r) sep=x++sep++Lib.join (y :: r) sep:=by
 simp[Lib.join,List.intercalate,List.intersperse]
theorem Qo:∀ xs:List Lz,xs≠[]->(Lib.join xs [47]).length+1=(xs.map fun x=>x.length+1).sum
 | [],h=>absurd rfl h
 | [x],_=>by simp[Lib.join]
 | x :: y :: r,_=>by
  have ih:=Qo (y :: r) (by simp);rw[jS];simp only[Wk,Wr,OC,WC,OS]at ih ⊢;omega
theorem zdH:∀ l:Lz,((Jh l).map fun x=>x.length+1).sum=l.length+1
 | []=>rfl
 | b :: l=>by
  have ih:=zdH l;unfold Jh;split
  ·simp only[WC,OS,OC,Wr,ih];omega
  ·cases h:Jh l with
   | nil=>exact absurd h (NN l)
   | cons x r =>
    rw[h]at ih;simp only[WC,OS,Wr]at ih ⊢;omega
theorem H7 (f:Lz->Bool):∀ xs:List Lz,((xs.filter f).map fun x=>x.length+1).sum<=(xs.map fun x=>x.length+1).sum
 | []=>by simp
 | x :: r=>by
  have ih:=H7 f r;rw[O8];split
  ·simp only[WC,OS];omega
  ·simp only[WC,OS];omega
theorem zgI:∀ (xs:List Lz) (x:Lz),x∈xs->x.length+1<=(xs.map fun x=>x.length+1).sum
 | y :: r,x,h=>by
  simp only[WC,OS];rcases WK.1 h with rfl | h
  ·omega
  ·have:=zgI r x h;omega
theorem X3 (l:Lz):(Lib.join (zn l) [47]).length<=l.length/\∀ x∈zn l,x.length<=l.length:=by
 have h1:=zdH l;have h2:=H7 (fun x=>!decide (x = [])) (Jh l);rw[←Yl]at h2;refine ⟨?_,fun x hx=>?_⟩
 ·by_cases h:zn l = []
  ·rw[h];simp[Lib.join]
  ·have:=Qo (zn l) h;omega
 ·have:=zgI (zn l) x hx;omega
theorem N4 (p:Lz) (hp:p.length<=1000000):Fun Tryz.prog G0 236 [.str p] (Yv p) 1:=by
 have hz:=qJ p;have hj:=X3 p;by_cases h1:qq (zn p)=p
 ·have h1':(p=qq (zn p)):=h1.symm;refine fon Tryz.func236 ?_;dsimp only[Tryz.f236];push_cast;refine call (Ya p) ?_;push_cast;refine call (Qb p hp) ?_;push_cast;refine call (XV (zn p) (by omega) (by omega)) ?_;push_cast [h1];refine call (Ui (zn p) (by omega) fun x hx=>by have:=hj.2 x hx;omega) ?_;push_cast;cases hm:(zn p).all may with
  | true =>
   push_cast;exact ⟨[.inl 0],rfl,rfl,by simp only[Yv,jE,h1,hm];push_cast [ze,zd,CLe,zg]<;>simp⟩
  | false =>
   push_cast;exact ⟨[.inr (9,1)],rfl,rfl,by simp only[Yv,jE,h1,hm];push_cast [ze,zd,CLe,zg]<;>simp⟩
 ·refine fon Tryz.func236 ?_;dsimp only[Tryz.f236];push_cast;refine call (Ya p) ?_;push_cast;refine call (Qb p hp) ?_;push_cast;refine call (XV (zn p) (by omega) (by omega)) ?_;push_cast [h1];exact ⟨[.inr (9,1)],rfl,rfl,by simp only[Yv,jE,h1];push_cast [ze,zd,CLe,zg]<;>simp⟩
end
section
open Go.RowKit
theorem zoX (l:Lz) (b:UInt8) (h:l[l.length-1]?=some b):Lib.hasSuffix l [47]=decide ((b.toNat:Int)=47):=by
 have hne:l≠[]:=fun e=>by subst e;simp at h
 have hl:l=l.take (l.length-1)++[b]:=by
  have hlt:l.length-1<l.length:=by have:=WG.2 hne;omega
  have:=W2 (l.length-1) l;rw[Of hlt]at this;rw[Wa hlt]at h;cases h;rw[AP (by omega)]at this;exact this.symm
 rw[hl];unfold Lib.hasSuffix;by_cases h:b=47
 ·subst h;have:([47]:Lz) <:+ l.take (l.length-1)++[47]:=List.suffix_append _ _;rw[List.isSuffixOf_iff_suffix.2 this];rfl
 ·have h2:¬((b.toNat:Int)=47):=zgU h;have h3:¬([47]:Lz) <:+ l.take (l.length-1)++[b]:=fun ⟨t,ht⟩=>by
   have:=List.append_inj_right' ht rfl;simp at this;exact h this.symm
  have h4:([47]:Lz).isSuffixOf (l.take (l.length-1)++[b])=false:=by
   rw[Ok];exact fun e=>h3 (List.isSuffixOf_iff_suffix.1 e)
  rw[h4];simp[h2]
theorem xB (xs:List Lz) (k:Nat) (x:Lz) (h:xs[k]?=some x):Lib.join (xs.take (k+1)) [47]=(if k=0 then x else Lib.join (xs.take k) [47]++[47]++x):=by
 cases xs with
 | nil=>simp at h
 | cons y r =>
  cases k with
  | zero=>simp at h;subst h;simp[Lib.join_one]
  | succ k =>
   simp only[AC,Nat.succ_ne_zero,Oe];rw[Lib.join_cons,Lib.join_cons,Lib.joinTail_take_succ _ _ _ x (by simpa using h)];simp[WE]
theorem zm2 (xs:List Lz) (k:Nat):(Lib.join (xs.take k) [47]).length<=(Lib.join xs [47]).length:=by
 by_cases h:xs.take k = []
 ·rw[h];simp[Lib.join]
 ·have h1:=Qo (xs.take k) h;have hx:xs≠[]:=fun e=>h (by rw[e];simp);have h2:=Qo xs hx;have h3:((xs.take k).map fun x=>x.length+1).sum<=(xs.map fun x=>x.length+1).sum:=by
   conv=>rhs;rw[←W2 k xs,Oa,BI]
   omega
  omega
theorem zbI (xs:List Lz) (k:Nat) (x:Lz) (h:xs[k]?=some x):(if xs.take (k+1) = [] then [] else qq (xs.take (k+1)))=(if xs.take k = [] then [] else qq (xs.take k))++[47]++x:=by
 have hk:k<xs.length:=(Wc.1 h).1;have h1:xs.take (k+1)≠[]:=fun e=>by have:=Wu List.length e;rw[W5]at this;simp only[OC]at this;omega
 rw[if_neg h1];unfold qq;rw[if_neg h1,xB xs k x h];by_cases hk0:k=0
 ·subst hk0;simp
 ·have h2:xs.take k≠[]:=fun e=>by have:=Wu List.length e;rw[W5]at this;simp only[OC]at this;omega
  simp[h2,hk0]
def jst (xs:List Lz) (k:Nat):Lz:=if xs.take k = [] then [] else qq (xs.take k)
theorem zdL (xs:List Lz) (k:Nat):(jst xs k).length<=(Lib.join xs [47]).length+1:=by
 unfold jst;split
 ·simp
 ·rename_i h;have:=zm2 xs k;unfold qq;rw[if_neg h];simp;omega
theorem yj (xs:List Lz) (hx:xs.length<=2000001) (hl:(Lib.join xs [47]).length<=100000000):Fun Tryz.prog G0 60 [.sl 1 (qg xs)] (.str (qq xs)) 0:=by
 by_cases h0:xs = []
 ·subst h0;refine fon Tryz.func60 ?_;dsimp only[Tryz.f60];push_cast;exact ⟨[],rfl,rfl,by push_cast [ze,zd,CLe,zg]<;>simp[qq]⟩
 ·have h0':¬((xs.length:Int)=0):=by have:=WG.2 h0;omega
  refine fon Tryz.func60 ?_;dsimp only[Tryz.f60];push_cast [h0'];refine loop (fun k:Nat=>⟨[(0,.sl 1 (qg xs)),(3,.str (jst xs k)),(4,.sc (.int .i64 k))],[],0,0⟩) (fun k=>k<=xs.length) (fun k=>xs.length-k) 0 (Wd _) ?_ ?_
  ·exact JY.mk [] rfl rfl (Wd _) rfl (by push_cast [ze,zd,CLe,zg]<;>simp[jst]) (by push_cast [ze,zd,CLe,zg])
  ·intro k hk;by_cases h:k<xs.length
   ·have hg:=Vf xs k h;have hst:jst xs (k+1)=jst xs k++[47]++xs[k]'h:=zbI xs k (xs[k]'h) (Wa h);have hjk:=zdL xs k;have hjl:=zdL xs (k+1);rw[hst]at hjl;simp only[Wk,Wr,OC]at hjl;push_cast [h,hg]
    repeat refine an ?_
    refine ⟨k+1,by omega,by omega,JY.mk [] rfl rfl (Wd _) rfl ?_ (by push_cast [ze,zd,CLe,zg])⟩;push_cast [ze,zd,CLe,zg];simp[hst]
   ·have hkl:k=xs.length:=by omega
    push_cast [h];exact ⟨[],rfl,rfl,by push_cast [ze,zd,CLe,zg]<;>simp[jst,hkl,h0]⟩
theorem HA (l:Lz) (hl:l.length<=2000000):Fun Tryz.prog G0 59 [.str l] (qZ (may l)) 0:=by
 refine fon Tryz.func59 ?_;dsimp only[Tryz.f59];push_cast;refine loop (fun k:Nat=>⟨[(0,.str l),(3,.sc (.int .i64 k))],[],0,0⟩) (fun k=>k<=l.length/\∀ j (hj:j<l.length),j<k->bad (l[j]'hj)=false) (fun k=>l.length-k) 0 ⟨Wd _,fun j _ hj=>by omega⟩ ?_ ?_
 ·exact wk
 ·intro k hk;have hk1:=hk.1;have hk2:=hk.2;by_cases h:k<l.length
  ·have hb:l[k]?=some (l[k]'h):=Wa h;have hbad:bad (l[k]'h)=true->may l=false:=fun hb=>by
    have:l.any bad=true:=Ou.2 ⟨l[k]'h,WB h,hb⟩;simp[may,this]
   by_cases h47:l[k]'h=47
   ·have h1:(((l[k]'h).toNat:Int)=47):=by rw[h47];rfl
    push_cast [h,hb,h1];refine ⟨by omega,[],rfl,rfl,?_⟩;push_cast [ze,zd,CLe,zg];rw[hbad (by simp[bad,h47])]
   ·have h1:¬(((l[k]'h).toNat:Int)=47):=zgU h47;by_cases h00:l[k]'h=0
    ·have h2:(((l[k]'h).toNat:Int)=0):=by rw[h00];rfl
     push_cast [h,hb,h1,h2];refine ⟨by omega,by omega,[],rfl,rfl,?_⟩;push_cast [ze,zd,CLe,zg];rw[hbad (by simp[bad,h00])]
    ·have h2:¬(((l[k]'h).toNat:Int)=0):=zgU h00;push_cast [h,hb,h1,h2]
     repeat refine an ?_
     refine ⟨k+1,⟨by omega,fun j hj hjk=>?_⟩,by omega,wk⟩;rcases Wq j k with g | g
     ·exact hk2 j hj g
     ·have:j=k:=by omega
      subst this;simp[bad,h47,h00]
  ·have hany:l.any bad=false:=Ob.2 fun x hx=>by
    obtain ⟨j,hj,rfl⟩:=WD hx;simp[hk2 j hj (by omega)]
   obtain rfl:k=l.length:=by omega
   by_cases h0:l = []
   ·subst h0;push_cast;exact ⟨[],rfl,rfl,by push_cast [ze,zd,CLe,zg]<;>simp[may]⟩
   ·have h1:(1:Int)<=(l.length:Int):=by have:=WG.2 h0;omega
    by_cases h2:(l.length:Int)<=255
    ·have h2':l.length<=255:=by omega
     by_cases h4:l = [46]
     ·subst h4;push_cast;exact ⟨[],rfl,rfl,by push_cast [ze,zd,CLe,zg]<;>simp[may]⟩
     ·by_cases h5:l = [46,46]
      ·subst h5;push_cast [h4];exact ⟨[],rfl,rfl,by push_cast [ze,zd,CLe,zg]<;>simp[may]⟩
      ·push_cast [h,h1,h2,h4,h5];exact ⟨[],rfl,rfl,by push_cast [ze,zd,CLe,zg]<;>simp[may,h0,h2',hany,h4,h5]⟩
    ·have h2':¬l.length<=255:=by omega
     push_cast [h,h1,h2];exact ⟨[],rfl,rfl,by push_cast [ze,zd,CLe,zg]<;>simp[may,h2']⟩
def JF (p q:Lz):Bool:=decide ((zn p).take (zn q).length=zn q)
theorem Mn (p q:Lz) (hp:p.length<=1000000) (hq:q.length<=1000000):Fun Tryz.prog G0 23 [.str p,.str q] (qZ (JF p q)) 0:=by
 have hn:=kr p (by omega);have hm:=kr q (by omega);have hs:=qJ p;have ht:=qJ q;by_cases h:(zn p).length<(zn q).length
 ·refine fon Tryz.func23 ?_;dsimp only[Tryz.f23];push_cast;refine call hn ?_;push_cast;refine call hm ?_;push_cast [h];refine ⟨[],rfl,rfl,?_⟩;push_cast [ze,zd,CLe,zg];have:¬(zn p).take (zn q).length=zn q:=fun e=>by have:=Wu List.length e;rw[W5]at this;omega
  simp[JF,this]
 ·refine fon Tryz.func23 ?_;dsimp only[Tryz.f23];push_cast;refine call hn ?_;push_cast;refine call hm ?_;push_cast [h];refine loop (fun k:Nat=>⟨[(5,.own 0 9 1 (qg (zn p))),(6,.own 1 9 1 (qg (zn q))),(7,.sc (.int .i64 k))],[],2,0⟩) (fun k=>k<=(zn q).length/\(zn p).take k=(zn q).take k) (fun k=>(zn q).length-k) 0 ⟨Wd _,rfl⟩ ?_ ?_
  ·exact wks [.inl 0,.inl 1]
  ·intro k hk;have hk1:=hk.1;have hk2:=hk.2;by_cases h3:k<(zn q).length
   ·have hg1:=Vf (zn p) k (by omega);have hg2:=Vf (zn q) k h3;by_cases he:(zn p)[k]'(by omega)=(zn q)[k]'h3
    ·push_cast [h3,hg1,hg2,he]
     repeat refine an ?_
     refine ⟨k+1,⟨by omega,?_⟩,by omega,wks [.inl 0,.inl 1]⟩;rw[WV,WV,hk2,Wa h3,Wa (by omega:k<(zn p).length),he]
    ·push_cast [h3,hg1,hg2,he]
     repeat refine an ?_
     refine ⟨[],rfl,rfl,?_⟩;push_cast [ze,zd,CLe,zg];have:¬(zn p).take (zn q).length=zn q:=fun e=>he (by
      have:=Wu (·[k]?) e;simp only[WF,if_pos h3]at this;rw[Wa (by omega),Wa h3]at this;exact Option.some.inj this)
     simp[JF,this]
   ·have hkl:k=(zn q).length:=by omega
    push_cast [h3];refine ⟨[],rfl,rfl,?_⟩;push_cast [ze,zd,CLe,zg];rw[hkl,Og]at hk2;simp[JF,hk2]
theorem VX (p:Lz) (hp:p.length<=2000000):Fun Tryz.prog G0 33 [.str p] (Yv p) 1:=by
 have hn:=kr p (by omega);have hs:=qJ p;have hj:=X3 p;refine fon Tryz.func33 ?_;dsimp only[Tryz.f33];push_cast;refine call hn ?_;push_cast;refine loop (fun k:Nat=>⟨[(0,.str p),(4,.own 0 9 1 (qg (zn p))),(5,.sc (.int .i64 k))],[],1,0⟩) (fun k=>k<=(zn p).length/\∀ j (hj:j<(zn p).length),j<k->may ((zn p)[j]'hj)=true) (fun k=>(zn p).length-k) 0 ⟨Wd _,fun j _ hj=>by omega⟩ ?_ ?_
 ·exact wks [.inl 0]
 ·intro k hk;have hk1:=hk.1;have hk2:=hk.2;by_cases h:k<(zn p).length
  ·have hg:=Vf (zn p) k h;have hlen:=hj.2 ((zn p)[k]'h) (WB h);push_cast [h,hg];refine ⟨by omega,?_⟩;refine call (HA ((zn p)[k]'h) (by omega)) ?_;push_cast;cases hm:may ((zn p)[k]'h) with
   | true =>
    push_cast
    repeat refine an ?_
    refine ⟨k+1,⟨by omega,fun j hj hjk=>?_⟩,by omega,wks [.inl 0]⟩;rcases Wq j k with g | g
    ·exact hk2 j hj g
    ·have:j=k:=by omega
     subst this;exact hm
   | false =>
    have hall:(zn p).all may=false:=List.all_eq_false.2 ⟨(zn p)[k]'h,WB h,by simp[hm]⟩;push_cast;exact ⟨[.inr (9,1)],rfl,rfl,by simp only[Yv,jE,hall];push_cast [ze,zd,CLe,zg]<;>simp⟩
  ·have hall:(zn p).all may=true:=Wt.2 fun x hx=>by
    obtain ⟨j,hj,rfl⟩:=WD hx;exact hk2 j hj (by omega)
   push_cast [h];refine call (yj (zn p) (by omega) (by omega)) ?_;push_cast;by_cases h1:qq (zn p)=p
   ·push_cast [h1];exact ⟨[.inl 0],rfl,rfl,by simp only[Yv,jE,h1,hall];push_cast [ze,zd,CLe,zg]<;>simp⟩
   ·push_cast [h1];exact ⟨[.inr (9,1)],rfl,rfl,by simp only[Yv,jE,h1];push_cast [ze,zd,CLe,zg]<;>simp⟩
end
section
open Go.RowKit
def Qi (x:Lz):Prop:=x≠[]/\(47:UInt8)∉x
theorem zep:∀ a t:Lz,Jh (a++47 :: t)=Jh a++Jh t
 | [],t=>by
  have:Jh (47 :: t) = [] :: Jh t:=rfl;exact this
 | b :: a,t=>by
  have ih:=zep a t;have e1:Jh (b :: (a++47 :: t))=if b=47 then [] :: Jh (a++47 :: t) else match Jh (a++47 :: t) with
   | []=>[[b]]
   | x :: r=>(b :: x) :: r:=rfl
  have e2:Jh (b :: a)=if b=47 then [] :: Jh a else match Jh a with
   | []=>[[b]]
   | x :: r=>(b :: x) :: r:=rfl
  rw[Om,e1,e2,ih];by_cases hb:b=47
  ·simp[hb]
  ·rw[if_neg hb,if_neg hb];have hne:=NN a;cases hs:Jh a with
   | nil=>exact absurd hs hne
   | cons x r=>simp
theorem zc5:∀ x:Lz,(47:UInt8)∉x->Jh x = [x]
 | [],_=>rfl
 | b :: x,h=>by
  have hb:¬(b=47):=fun e=>h (by rw[e];exact Wi);have ih:=zc5 x (fun hx=>h (Wl _ hx));unfold Jh;rw[if_neg hb,ih]
theorem zcW:∀ (l x:Lz),x∈Jh l->(47:UInt8)∉x
 | [],x,h=>by simp[Jh]at h;subst h;simp
 | b :: l,x,h=>by
  have ih:=zcW l;unfold Jh at h;by_cases hb:b=47
  ·rw[if_pos hb]at h;rcases WK.1 h with rfl | h
   ·simp
   ·exact ih x h
  ·rw[if_neg hb]at h;have hne:=NN l;cases hs:Jh l with
   | nil=>exact absurd hs hne
   | cons y r =>
    rw[hs]at h ih;simp only at h;rcases WK.1 h with rfl | h
    ·intro hm;rcases WK.1 hm with e | hm
     ·exact hb e.symm
     ·exact ih y Wi hm
    ·exact ih x (Wl _ h)
theorem Zl {l x:Lz} (h:x∈zn l):Qi x:=by
 rw[Yl,Ov]at h;exact ⟨by simpa using h.2,zcW l x h.1⟩
theorem U8 (a t:Lz):zn (a++47 :: t)=zn a++zn t:=by
 rw[Yl,Yl,Yl,zep,O5]
theorem xm {x:Lz} (h:Qi x):zn x = [x]:=by
 rw[Yl,zc5 x h.2];simp[h.1]
theorem xJ (l:Lz):zn (47 :: l)=zn l:=U8 [] l
theorem H8:∀ xs:List Lz,(∀ x∈xs,Qi x)->zn (Lib.join xs [47])=xs
 | [],_=>rfl
 | [x],h=>by rw[Lib.join_one];exact xm (h x Wi)
 | x :: y :: r,h=>by
  have ih:=H8 (y :: r) fun z hz=>h z (Wl _ hz);rw[jS,WE];show zn (x++47 :: Lib.join (y :: r) [47])=_;rw[U8,ih,xm (h x Wi)]
  rfl
theorem Xw (xs:List Lz) (h:∀ x∈xs,Qi x):zn (qq xs)=xs:=by
 unfold qq;by_cases hx:xs = []
 ·rw[if_pos hx,hx];rfl
 ·rw[if_neg hx,xJ,H8 xs h]
theorem uv (l:Lz) (b:UInt8):Lib.hasSuffix (l++[b]) [47]=decide (b=47):=by
 have:=zoX (l++[b]) b (by simp);rw[this];by_cases h:b=47
 ·subst h;rfl
 ·have h2:¬((b.toNat:Int)=47):=zgU h;simp[h,h2]
theorem MD:∀ xs:List Lz,xs≠[]->(∀ x∈xs,Qi x)->∃ t b,Lib.join xs [47]=t++[b]/\b≠47
 | [],h,_=>absurd rfl h
 | [x],_,h=>by
  have hx:=h x Wi;refine ⟨x.dropLast,x.getLast hx.1,?_,fun e=>hx.2 ?_⟩
  ·rw[Lib.join_one,List.dropLast_concat_getLast]
  ·rw[←e];exact List.getLast_mem _
 | x :: y :: r,_,h=>by
  obtain ⟨t,b,e,hb⟩:=MD (y :: r) (by simp) fun z hz=>h z (Wl _ hz);exact ⟨x++[47]++t,b,by rw[jS,e];simp,hb⟩
theorem ze4 (a:Bool) (xs:List Lz) (s:Bool) (h:∀ x∈xs,Qi x):(!decide (xs = [])&&Lib.hasSuffix (put a xs s) [47])=(s&&!decide (xs = [])):=by
 by_cases hx:xs = []
 ·simp[hx]
 ·unfold put;cases s
  ·obtain ⟨t,b,e,hb⟩:=MD xs hx h;have:=uv ((if a then [47] else [])++t) b;simp only[W8,W7,Oe,W0,e];rw[←WE,this];simp[hb]
  ·have:=uv ((if a then [47] else [])++Lib.join xs [47]) 47;simp only[hx,Or,decide_false,Aq,if_true];rw[this];rfl
theorem j8 {x:Lz} (h:may x=true):Qi x:=by
 simp only[may,Wp,Ab,Oc]at h;refine ⟨h.1.1.1.1,fun hm=>?_⟩;have:=Ob.1 h.1.1.2 47 hm;exact this (by decide)
theorem zc6 (xs zs:List Lz) (hx:xs≠[]) (hz:zs≠[]):qq (xs++zs)=qq xs++47 :: Lib.join zs [47]:=by
 unfold qq;rw[if_neg hx,if_neg (by simp[hx])];simp only[Om,List.cons.injEq,true_and]
 induction xs with
 | nil=>exact absurd rfl hx
 | cons x r ih =>
  cases r with
  | nil =>
   cases zs with
   | nil=>exact absurd rfl hz
   | cons z zs=>simp only[Om,OV];rw[jS,Lib.join_one];simp
  | cons y r =>
   have:=ih (by simp);simp only[Om]at this ⊢;rw[jS,jS,this];simp
theorem Xz (xs ys:List Lz) (hx:∀ x∈xs,Qi x) (hy:∀ y∈ys,Qi y):JM (qq xs) (qq ys)=decide (xs.take ys.length=ys):=by
 have nx:=Xw xs hx;have ny:=Xw ys hy;rw[Bool.eq_iff_iff];simp only[WU,JM,On];constructor
 ·rintro ((h | h) | h)
  ·have:xs=ys:=by rw[←nx,←ny,h]
   rw[this,Og]
  ·have:ys = []:=by rw[←ny,h];rfl
   rw[this];rfl
  ·unfold Lib.hasPrefix at h;obtain ⟨t,ht⟩:=List.isPrefixOf_iff_prefix.1 h;have:xs=ys++zn t:=by
    rw[←nx,←ht,WE];show zn (qq ys++47 :: t)=_;rw[U8,ny]
   rw[this,Bf]
 ·intro h;have e:xs=ys++xs.drop ys.length:=by
   conv=>lhs;rw[←W2 ys.length xs,h]
  by_cases hys:ys = []
  ·exact .inl (.inr (by rw[hys];rfl))
  ·by_cases hd:xs.drop ys.length = []
   ·refine .inl (.inl ?_);rw[hd,W0]at e;rw[e]
   ·refine .inr ?_;rw[e,zc6 _ _ hys hd];unfold Lib.hasPrefix;refine List.isPrefixOf_iff_prefix.2 ⟨Lib.join (xs.drop ys.length) [47],?_⟩;simp
theorem jN {p:Lz} (h:jE p=true):qq (zn p)=p:=by
 unfold jE at h;simp only[Wp,WU]at h;exact h.1
theorem UW (p q:Lz) (hp:jE p=true) (hq:jE q=true):JM p q=JF p q:=by
 have h:=Xz (zn p) (zn q) (fun x hx=>Zl hx) (fun x hx=>Zl hx);rw[jN hp,jN hq]at h;exact h
end
section
open Go.RowKit Go.ChangeMaps Go.ChangeShapes Go.WideShapes Go.Deep Go.Joins
theorem vm (R:Env):XM G0 R:=fun g cs h=>by cases h
section
variable {H:Type} {enc:TypeId×Value->H} {W:World}
end
end
section
open Go.RowKit
mutual
/-- the cells that read as a datum of jE data -/
def Z6:DataW Unit->Option (List Value)
 | .lit (.int k n)=>some [.int k n]
 | .lit (.bool b)=>some [.bool b]
 | .lit (.string l)=>some [.string ⟨l.toArray⟩]
 | .agg ds=>U3 ds
 | _=>none
def U3:List (DataW Unit)->Option (List Value)
 | []=>some []
 | d :: ds=>match Z6 d,U3 ds with
  | some a,some b=>some (a++b)
  | _,_=>none
end
def My (P:Program):Nat->List Field->Nat->Bool
 | j,[],n=>j==n
 | j,f :: fs,n=>f.offset==j&&My P (j+P.cellsOf f.type) fs n
def ke (P:Program):Nat->TypeId->Bool
 | 0,_=>false
 | m+1,t=>match P.underlying t with
  | some .bool=>true
  | some (.int _)=>true
  | some .string=>true
  | some (.struct fs)=>My P 0 fs.toList (P.cellsOf t)&&fs.toList.all fun f=>ke P m f.type
  | some (.array n e)=>ke P m e&&P.cellsOf t==n*P.cellsOf e
  | _=>false
section
variable {enc:TypeId×Value->Unit} {P:Program} {w:World} {base:Nat} {spare:Nat->Bool} {held:Bool}
theorem UC {d:DataW Unit} {ds:List (DataW Unit)} {a b:List Value} (h1:Z6 d=some a) (h2:U3 ds=some b):U3 (d :: ds)=some (a++b):=by
 rw[U3,h1,h2]
theorem ZE {n:Nat} {cs:List Value} (ih:∀ t cs d p,ke P n t=true->DataW.trod enc P w base spare held n t cs=some (d,p)->Z6 d=some cs) {m:Nat} (hm:∀ t cs d p,ke P m t=true->DataW.trod enc P w base spare held n t cs=some (d,p)->Z6 d=some cs) :
  ∀ (fs:List Field) (j N:Nat) (xs:List (DataW Unit×List MemPlace)),My P j fs N=true->(fs.all fun f=>ke P m f.type)=true->cs.length=N->xs.length=fs.length ->
   (∀ (i:Nat) (f:Field),fs[i]?=some f->DataW.trod enc P w base spare held n f.type ((cs.drop f.offset).take (P.cellsOf f.type))=xs[i]?)->U3 (xs.map (·.1))=some (cs.drop j)
 | [],j,N,xs,hc,_,hl,hx,_=>by
  simp only[My,Ox]at hc
  match xs,hx with
  | [],_=>rw[OG (by omega)];rfl
 | f :: fs,j,N,xs,hc,ha,hl,hx,hf=>by
  simp only[My,Wp,Ox]at hc;simp only[A2,Wp]at ha
  match xs,hx with
  | x :: xs,hx =>
   have h0:=hf 0 f rfl;have e0:Z6 x.1=some ((cs.drop f.offset).take (P.cellsOf f.type)):=hm _ _ _ x.2 ha.1 h0;have e1:=ZE ih hm fs _ N xs hc.2 ha.2 hl (by simpa using hx) fun i g hg=>hf (i+1) g hg;rw[WC,UC e0 e1,hc.1,←Aw,W2]
theorem V2 {n:Nat} {e:TypeId} {cs:List Value}:∀ (N j:Nat) (xs:List (DataW Unit×List MemPlace)),(∀ cs d p,DataW.trod enc P w base spare held n e cs=some (d,p)->Z6 d=some cs)->cs.length=(j+N)*P.cellsOf e->xs.length=N ->
   (∀ (i:Nat),i<N->DataW.trod enc P w base spare held n e ((cs.drop ((j+i)*P.cellsOf e)).take (P.cellsOf e))=xs[i]?)->U3 (xs.map (·.1))=some (cs.drop (j*P.cellsOf e))
 | 0,j,xs,_,hl,hx,_=>by
  match xs,hx with
  | [],_=>rw[OG (by simp at hl;omega)];rfl
 | N+1,j,xs,hm,hl,hx,hf=>by
  match xs,hx with
  | x :: xs,hx =>
   have e0:=hm _ _ x.2 (hf 0 (AT _));have e1:=V2 N (j+1) xs hm (by rw[hl];congr 1;omega) (by simpa using hx) fun i hi=>by
    have:=hf (i+1) (by omega);rw[show j+(i+1)=j+1+i by omega]at this;exact this
   rw[WC,UC e0 e1,Ag,show (j+1)*P.cellsOf e=j*P.cellsOf e+P.cellsOf e by rw[Oj];omega,←Aw,W2]
theorem Qc:∀ (n m:Nat) (t:TypeId) (cs:List Value) (d:DataW Unit) (p:List MemPlace),ke P m t=true->DataW.trod enc P w base spare held n t cs=some (d,p)->Z6 d=some cs
 | 0,m,t,cs,d,p,_,h=>by simp[DataW.trod]at h
 | n+1,0,t,cs,d,p,hf,h=>by simp[ke]at hf
 | n+1,m+1,t,cs,d,p,hf,h=>by
  unfold ke at hf;split at hf
  ·rename_i hu;obtain ⟨b,rfl,e⟩:=DataW.trod_bool hu h;cases e;rfl
  ·rename_i k hu;obtain ⟨b,rfl,e,_⟩:=DataW.trod_int hu h;cases e;rfl
  ·rename_i hu;obtain ⟨s,rfl,e,_⟩:=DataW.trod_string hu h;cases e;rw[Z6]
  ·rename_i fs hu;simp only[Wp]at hf;obtain ⟨xs,n',hn,e,hl,hx,hg⟩:=DataW.trod_struct hu h;cases hn;cases e;have hrec:∀ t cs d p,ke P m t=true->DataW.trod enc P w base spare held n t cs=some (d,p)->Z6 d=some cs:=fun t cs d p=>Qc n m t cs d p;have:=ZE (n:=n) (fun t cs d p=>Qc n n t cs d p) hrec fs.toList 0 _ xs hf.1 hf.2 hl (by rw[hx];rfl) fun i f hif=>hg i f (by simpa using hif);rw[AV]at this;rw[Z6,this]
  ·rename_i N e hu;simp only[Wp,Ox]at hf;obtain ⟨xs,n',hn,e',hl,hx,hg⟩:=DataW.trod_array hu h;cases hn;cases e';have:=V2 (n:=n) (e:=e) (cs:=cs) N 0 xs (fun cs d p=>Qc n m e cs d p hf.1) (by rw[hl,hf.2,Ot]) hx fun i hi=>by rw[Ot];exact hg i hi
   rw[Nat.zero_mul,AV]at this;rw[Z6,this]
  ·cases hf
end
theorem Gf {W:World} {g:Nat}:∀ (vs:List Value) (o:Nat),(∀ (i:Nat) v,vs[i]?=some v->W.cell? ⟨g,o+i,none⟩=some v)->(vs.all fun v=>v.oneCell')=true->zP (N7 W) (vs.map zD) g o:=fun vs o h ho=>by
 refine qf fun i c hc=>?_;rw[Wv,Av]at hc;obtain ⟨v,hv,rfl⟩:=hc;exact ⟨v,h i v hv,fun hf=>hf,jK _ _ v,Wt.1 ho v (Wf hv)⟩
theorem GE {W:World} {l:List (String×DataW Unit)} (h:laidMetH P l W) (hp:(l.filter fun x=>x.2.handleName?.isSome) = []) {n:String} {d:DataW Unit} (hm:(n,d)∈l) {g:Nat} {t:TypeId} {m:Nat} {vs:List Value}
  (hg:P.globalNamed n=some g) (ht:(P.globals[g]?).map (·.type)=some t) (hf:ke P m t=true) (hd:Z6 d=some vs) (ho:(vs.all fun v=>v.oneCell')=true):zP (N7 W) (vs.map zD) g 0:=by
 unfold laidMetH at h;rw[hp]at h;obtain ⟨g',t',cs,fuel,p,hg',ht',hvar,htr⟩:=Lib.laidMet.reads h hm;rw[hg]at hg';cases hg';rw[ht]at ht';cases ht';have e:=Qc _ _ _ _ _ _ hf htr;have e':vs=cs.toList:=Option.some.inj (hd.symm.trans e);subst e';refine Gf _ 0 (fun i v hv=>?_) ho;rw[World.var?_cell hg hvar,Ot];simpa using hv
theorem JI {W:World} {l:List (String×DataW Unit)} (h:laidMetH P l W) (hp:(l.filter fun x=>x.2.handleName?.isSome) = []) {n:String} {d:DataW Unit} (hm:(n,d)∈l) {g:Nat} {t:TypeId} {m:Nat} {vs:List Value}
  (hg:P.globalNamed n=some g) (ht:(P.globals[g]?).map (·.type)=some t) (hf:ke P m t=true) (hd:Z6 d=some vs) (ho:(vs.all fun v=>v.oneCell')=true) :
  zP (N7 W) (vs.map zD) g 0/\(∃ us ty fl,(N7 W).w.heap[g]?=some (.cells us ty fl)/\us.size=(vs.map zD).length)/\∀ o,¬(N7 W).M g o:=by
 refine ⟨GE h hp hm hg ht hf hd ho,?_,fun o h=>h⟩;unfold laidMetH at h;rw[hp]at h;obtain ⟨g',t',cs,fuel,p,hg',ht',hvar,htr⟩:=Lib.laidMet.reads h hm;rw[hg]at hg';cases hg';rw[ht]at ht';cases ht';have e:=Qc _ _ _ _ _ _ hf htr;have e':vs=cs.toList:=Option.some.inj (hd.symm.trans e);subst e';unfold World.var? at hvar;rw[hg]at hvar;simp only[AG]at hvar;split at hvar
 ·rename_i cs' ty fl hh;cases hvar;exact ⟨_,_,_,hh,by simp⟩
 ·cases hvar
theorem Fun.glob {G G':zr} {f:FuncId} {r:C} {n:Nat} (h:Fun P G f args r n) (hG:∀ g cs,G g=some cs->G' g=some cs):Fun P G' f args r n:=
 ⟨h.1,fun R vs hg ha=>h.2 R vs (fun g cs e=>hg g cs (hG g cs e)) ha⟩
theorem Fun.glob0 {G':zr} {f:FuncId} {r:C} {n:Nat} (h:Fun P G0 f args r n):Fun P G' f args r n:=h.glob fun g cs e=>by cases e
end
section
open CA CB
open Go.RowKit
def zoi:List Value:=[.bool false,.bool false,.bool false,.bool false,.bool false,.bool false,.bool false,.bool true,.bool false,.bool true,.bool true,.bool false,.bool false,.bool false,.bool true,.bool false,.bool true,.bool false,.bool false,.bool true,.bool false,.bool true,.bool false,.bool false,.bool false,.bool false,.bool false,.bool true,.bool false,.bool false,.bool true,.bool false,.bool false]
def G1:zr:=fun g=>if g=3 then some (zoi.map zD) else none
theorem zpL:G1 3=some [.sc (.bool false),.sc (.bool false),.sc (.bool false),.sc (.bool false),.sc (.bool false),.sc (.bool false),.sc (.bool false),.sc (.bool true),.sc (.bool false),.sc (.bool true),.sc (.bool true),.sc (.bool false),.sc (.bool false),.sc (.bool false),.sc (.bool true),.sc (.bool false),.sc (.bool true),.sc (.bool false),.sc (.bool false),.sc (.bool true),.sc (.bool false),.sc (.bool true),.sc (.bool false),.sc (.bool false),.sc (.bool false),.sc (.bool false),.sc (.bool false),.sc (.bool true),.sc (.bool false),.sc (.bool false),.sc (.bool true),.sc (.bool false),.sc (.bool false)]:=rfl
attribute [push_cast] zpL
def qm (p:Lz):Bool:=jE p&&!decide (zn p = [])
theorem MP (p:Lz) (hp:p.length<=1000000):Fun Tryz.prog G0 203 [.str p] (qZ (qm p)) 0:=by
 have h:=N4 p hp;unfold Yv at h;cases hb:jE p with
 | false =>
  rw[hb]at h;refine fon Tryz.func203 ?_;dsimp only[Tryz.f203];push_cast;refine cl h ?_;push_cast;exact ⟨[],rfl,rfl,by push_cast [ze,zd,CLe,zg];simp[qm,hb]⟩
 | true =>
  rw[hb,if_pos rfl]at h;refine fon Tryz.func203 ?_;dsimp only[Tryz.f203];push_cast;refine cl h ?_;push_cast;refine ⟨[],rfl,rfl,?_⟩;push_cast [ze,zd,CLe,zg];by_cases hn:zn p = []
  ·simp[qm,hb,hn]
  ·have:=WG.2 hn;simp[qm,hb,hn,this]
theorem zcb (l:Lz):Fun Tryz.prog G0 192 [.str l,.str [0]] (.sc (.int .i64 (Lib.indexByte l 0))) 0:=by
 refine Fun.wrap (by kernel_rfl) fun R vs h=>?_;obtain ⟨v1,us1,rfl,h1,h⟩:=zh.1 h;obtain ⟨v2,us2,rfl,h2,h⟩:=zh.1 h;rw[zm]at h;subst h;rw[z8]at h1 h2;subst h1 h2;refine (Tryz.strings_Index_one ⟨l.toArray⟩ 0 R.w).mono ?_;rintro e w' ⟨rfl,rfl⟩;exact ⟨_,rfl,W9 _ _,fun R' _=>zq.2 (by simp)⟩
theorem HR:∀ l:Lz,decide (0<=Lib.indexByte l 0)=l.any (fun b=>decide (b=0))/\-1<=Lib.indexByte l 0
 | []=>⟨rfl,by decide⟩
 | b :: l=>by
  obtain ⟨h1,h2⟩:=HR l;unfold Lib.indexByte;by_cases hb:b=0
  ·subst hb;simp
  ·have hb':(b==0)=false:=by simpa using hb
   rw[hb'];simp only[W7,Oe,AS,hb,decide_false,O0,←h1];split
   ·rename_i hm;have:=Ox.1 hm;rw[this];simp
   ·rename_i hm;have:¬Lib.indexByte l 0 = -1:=fun e=>hm (by rw[e];rfl);constructor
    ·rw[A8];omega
    ·omega
theorem Nb (l:Lz) (hl:l.length<=1000000):Fun Tryz.prog G0 237 [.str l,.str [0]] (qZ (l.any fun b=>decide (b=0))) 0:=by
 have h:=(HR l).1;refine fon Tryz.func237 ?_;dsimp only[Tryz.f237];push_cast;refine cl (zcb l) ?_;push_cast;exact dn (by push_cast [ze,zd,CLe,zg,h])
def Qg (s:Lz):Bool:=!decide (s = [])&&decide (s.length<=4095)&&!(s.any fun b=>decide (b=0))
theorem zba (s:Lz) (hs:s.length<=1000000):Fun Tryz.prog G0 204 [.str s] (qZ (Qg s)) 0:=by
 have h:=Nb s hs;by_cases h1:s = []
 ·refine fon Tryz.func204 ?_;dsimp only[Tryz.f204];push_cast [h1];exact ⟨[],rfl,rfl,by push_cast [ze,zd,CLe,zg];simp[Qg,h1]⟩
 ·by_cases h2:s.length<=4095
  ·have h2':(s.length:Int)<=4095:=by omega
   refine fon Tryz.func204 ?_;dsimp only[Tryz.f204];push_cast [h1,h2'];refine cl h ?_;push_cast;exact ⟨[],rfl,rfl,by push_cast [ze,zd,CLe,zg];simp[Qg,h1,h2]⟩
  ·have h2':¬(s.length:Int)<=4095:=by omega
   refine fon Tryz.func204 ?_;dsimp only[Tryz.f204];push_cast [h1,h2'];exact ⟨[],rfl,rfl,by push_cast [ze,zd,CLe,zg];simp[Qg,h1,h2]⟩
end
end Go.Proofs.YtnpdbhbmakdklaaGreatDoor.Vcg
section
namespace Go.Proofs.YtnpdbhbmakdklaaGreatDoor.QuotePlain
abbrev Bs:=Lz
def good (c:UInt8):Bool:=decide (32<=c.toNat/\c.toNat<=126/\c.toNat≠34/\c.toNat≠92)
def zkx:Bs:=[48,49,50,51,52,53,54,55,56,57,97,98,99,100,101,102]
def za2 (n:Nat):UInt8:=zkx.getD n 0
def qb (c:UInt8):Bs:=if good c then [c] else [92,120,za2 (c.toNat / 16),za2 (c.toNat % 16)]
def mid (l:Bs):Bs:=l.flatMap qb
def jL (l:Bs):Bs:=34 :: (mid l++[34])
def zpb (l:Bs):Bool:=decide (l≠[])&&l.all fun c=>decide (33<=c.toNat/\c.toNat<=126/\c.toNat≠34)
def znx (c:UInt8):Nat:=(zkx.findIdx? (·==c)).getD 16
def zhn:Bs->UInt8×Nat
 | []=>(0,0)
 | c :: r =>
  if c≠92 then (if good c then (c,1) else (0,0))
  else match r with
   | x :: a :: b :: _=>if x=120/\znx a<16/\znx b<16/\good (UInt8.ofNat (znx a*16+znx b))=false then (UInt8.ofNat (znx a*16+znx b),4) else (0,0)
   | _=>(0,0)
theorem zgf {p:UInt8->Bool} (h:(List.range 256).all (fun n=>p (UInt8.ofNat n))=true) (c:UInt8):p c=true:=by
 have h1:=Wt.1 h c.toNat (List.mem_range.2 c.toNat_lt);simpa using h1
def znV:Nat->Bs->Option (Bs×Nat)
 | 0,_=>none
 | _+1,[]=>none
 | f+1,c :: r=>if c=34 then some ([],1) else if (zhn (c :: r)).2=0 then none else (znV f ((c :: r).drop (zhn (c :: r)).2)).map fun x=>((zhn (c :: r)).1 :: x.1,(zhn (c :: r)).2+x.2)
def body (l:Bs):Option (Bs×Nat):=znV (l.length+1) l
def qtd:Bs->Option (Bs×Nat)
 | []=>none
 | c :: r=>if c=34 then (body r).map fun x=>(x.1,x.2+1) else none
def unq (l:Bs):Option Bs:=match qtd l with | some (t,n)=>if n=l.length then some t else none | none=>none
end Go.Proofs.YtnpdbhbmakdklaaGreatDoor.QuotePlain
end
section
namespace Go.Proofs.YtnpdbhbmakdklaaGreatDoor.QuotePlain
def okw (w:Bs):Bool:=(unq w).isSome||zpb w
def cut:Bs->Bs->Bool->Option (List Bs)
 | [],w,_=>if okw w then some [w] else none
 | c :: r,w,i=>if c=32/\i=false then (if okw w then (cut r [] i).map (w :: ·) else none) else cut r (w++[c]) (if c=34 then !i else i)
end Go.Proofs.YtnpdbhbmakdklaaGreatDoor.QuotePlain
end
section
namespace Go.Proofs.YtnpdbhbmakdklaaGreatDoor.QuotePlain
def F (q:List Bs):Bs:=q.flatMap (·++[32])
end Go.Proofs.YtnpdbhbmakdklaaGreatDoor.QuotePlain
end
namespace Go.Proofs.YtnpdbhbmakdklaaGreatDoor.Vcg
variable {l:List (Int×Int)} {x:zl} {P:Program} {f:FsV} {args:List C} {n:Int} {k i N:Nat} {xs:List zl} {α κ:Type} {S:List Int}
section
structure OpV where
 kind:Int
 slot:Int
 a:Lz
 b:Lz
 d:Lz
deriving DecidableEq,Inhabited
def Vz (k:Int):Bool:=decide (k=3)||decide (k=7)||decide (k=9)||decide (k=10)
def zpj (k:Int):Bool:=decide (k=2)||decide (k=3)||decide (k=5)||decide (k=6)
end
section
open CA CB
open Go.RowKit
def opL (o:OpV):List C:=[.sc (.int .i64 o.kind),.sc (.int .i64 o.slot),.str o.a,.str o.b,.str o.d]
def kY (o:OpV):Bool:=decide (1<=o.kind)&&decide (o.kind<=10)&&qm o.a&&(if Vz o.kind then decide (1<=o.slot)&&decide (o.slot<=1073741824) else decide (o.slot=0))&&(if zpj o.kind then qm o.b else decide (o.b = []))
 && (if o.kind=4 then Qg o.d else decide (o.d = []))&&(!decide (o.kind=6)||(!JM o.a o.b&&!JM o.b o.a))
def zaz (o:OpV):Prop:=o.a.length<=1000000/\o.b.length<=1000000/\o.d.length<=1000000
theorem NV (k s:Int) (a b d:Lz) (hs:zaz ⟨k,s,a,b,d⟩):Fun Tryz.prog G1 170 [.agg (opL ⟨k,s,a,b,d⟩)] (qZ (kY ⟨k,s,a,b,d⟩)) 0:=by
 have hs1:a.length<=1000000:=hs.1;have hs2:b.length<=1000000:=hs.2.1;have hs3:d.length<=1000000:=hs.2.2;have h1:=(MP a (by omega)).glob0 (G':=G1);have h2:=(MP b (by omega)).glob0 (G':=G1);have h3:=(zba d (by omega)).glob0 (G':=G1);have h4:=(HD a b (by omega)).glob0 (G':=G1);have h5:=(HD b a (by omega)).glob0 (G':=G1);unfold opL;by_cases hk1:k<1
 ·have:¬1<=k:=by omega
  refine fon Tryz.func170 ?_;dsimp only[Tryz.f170];push_cast [hk1];exact ⟨[],rfl,rfl,by push_cast [ze,zd,CLe,zg];simp[kY,this]⟩
 by_cases hk2:10<k
 ·have:¬k<=10:=by omega
  refine fon Tryz.func170 ?_;dsimp only[Tryz.f170];push_cast [hk1,hk2];exact ⟨[],rfl,rfl,by push_cast [ze,zd,CLe,zg];simp[kY,this]⟩
 cases hp:qm a with
 | false =>
  rw[hp]at h1;refine fon Tryz.func170 ?_;dsimp only[Tryz.f170];push_cast [hk1,hk2];refine cl h1 ?_;push_cast;exact ⟨[],rfl,rfl,by push_cast [ze,zd,CLe,zg];simp[kY,hp]⟩
 | true =>
  rw[hp]at h1;have hk:k=1∨k=2∨k=3∨k=4∨k=5∨k=6∨k=7∨k=8∨k=9∨k=10:=by omega
  clear hk1 hk2 hs hs1 hs2 hs3;rcases hk with rfl | rfl | rfl | rfl | rfl | rfl | rfl | rfl | rfl | rfl
  all_goals
   refine fon Tryz.func170 ?_;dsimp only[Tryz.f170];push_cast;refine cl h1 ?_;push_cast
   repeat' (first
    | (refine call h2 ?_;push_cast)
    | (refine zaE h2 ?_;push_cast)
    | (refine call h3 ?_;push_cast)
    | (refine zaE h3 ?_;push_cast)
    | (refine call h4 ?_;push_cast)
    | (refine zaE h4 ?_;push_cast)
    | (refine call h5 ?_;push_cast)
    | (refine zaE h5 ?_;push_cast)
    | (refine br (fun h=>?_) (fun h=>?_)<;>push_cast [h])
    | (refine ⟨[],rfl,rfl,?_⟩;push_cast [ze,zd,CLe,zg];clear h1 h2 h3 h4 h5;simp_all [kY,Vz,zpj]<;>omega))
end
section
structure zH where
 dir:Int
 name:Lz
 ino:Int
deriving DecidableEq,Inhabited
structure zW where
 slot:Int
 ino:Int
 content:Bool
 data:Lz
deriving DecidableEq,Inhabited
structure qN where
 fs:FsV
 kept:List zW
 pool:List zl
deriving DecidableEq,Inhabited
def jb:zH:=⟨0,[],0⟩
def zl2:zW:=⟨0,0,false,[]⟩
abbrev Jw (es:List zO):Prop:=qL Jv zO.name es
def Yb (n:Lz) (es:List zO):Bool:=JB zO.name n es
def zK (n:Lz) (es:List zO):Int:=match qA zO.name n es with | some e=>e.ino | none=>0
def zi (n:Lz) (es:List zO):List zO:=Yt zO.name n es
def zU (n:Lz) (i:Int) (es:List zO):List zO:=Vi Jv zO.name ⟨n,i⟩ (Yt zO.name n es)
def atW (xs:List zl):List Lz->zH->zH×Int
 | [],s=>(s,0)
 | n :: r,s=>if s.ino=0 then (jb,1) else if (zf s.ino xs).kind≠2 then (jb,3) else atW xs r ⟨(zf s.ino xs).ino,n,zK n (zf s.ino xs).es⟩
def atV (f:FsV) (p:Lz):zH×Int:=if jE p then atW f.xs (zn p) ⟨0,[],1⟩ else (jb,9)
def Zd (f:FsV) (n b:Int):Bool:=decide (f.xs.length+n<=f.maxI)&&decide (qj f.xs+b<=f.maxB)
def ql (d:Int) (es:List zO->List zO) (xs:List zl):List zl:=qp { zf d xs with es:=es (zf d xs).es } xs
def zbW (f:FsV) (s:zH) (k:Int) (t:Lz):FsV:={ f with next:=f.next+1,xs:=qp ⟨f.next,k,1,t,if k=2 then s.dir else 0,[]⟩ (ql s.dir (zU s.name f.next) f.xs) }
def zcL (f:FsV) (s:zH) (k:Int) (t:Lz):FsV×Int:=
 if may s.name then (if Zd f 1 (if k=1 then (t.length:Int) else 0) then (zbW f s k t,0) else (f,8)) else (f,9)
def zp (f:FsV) (s:zH):FsV:=
 if (zf s.ino f.xs).links-1=0 then { f with xs:=qc s.ino (ql s.dir (zi s.name) f.xs) }
 else { f with xs:=qp { zf s.ino f.xs with links:=(zf s.ino f.xs).links-1 } (ql s.dir (zi s.name) f.xs) }
def kj (f:FsV) (s:zH) (i:Int):FsV:={ f with xs:=qp { zf i f.xs with links:=(zf i f.xs).links+1 } (ql s.dir (zU s.name i) f.xs) }
def jx (f:FsV) (a b:zH):FsV:=
 let g:=ql b.dir (zU b.name a.ino) (ql a.dir (zi a.name) f.xs)
 if (zf a.ino g).kind=2 then { f with xs:=qp { zf a.ino g with parent:=b.dir } g } else { f with xs:=g }
def XO (f:FsV) (i:Int) (t:Lz):FsV:={ f with xs:=qp { zf i f.xs with data:=t } f.xs }
def kO (f:FsV) (i:Int) (t:Lz):FsV×Int:=
 if Zd f 0 ((t.length:Int)-(zf i f.xs).data.length) then (XO f i t,0) else (f,8)
def NK (n:Int) (ks:List zW):Bool:=JB zW.slot n ks
def qF (k:zW) (ks:List zW):List zW:=Vi Ji zW.slot k ks
def JT (w:qN) (n:Int) (s:zH):qN×Int:=
 if NK n w.kept then (w,13)
 else (⟨zp w.fs s,qF ⟨n,s.ino,false,[]⟩ w.kept,if (zf s.ino w.fs.xs).links=1 then qp { zf s.ino w.fs.xs with links:=0,parent:=0 } w.pool else w.pool⟩,0)
def JS (w:qN) (n i:Int):qN×Int:=
 if NK n w.kept then (w,13) else ({ w with kept:=qF ⟨n,i,true,(zf i w.fs.xs).data⟩ w.kept },0)
def isV (f:FsV) (p:Lz) (want:Bool):zH×zl×Int:=
 let a:=atV f p
 (a.1,zf a.1.ino f.xs,if a.2≠0 then a.2 else if want&&!zk a.1.ino f.xs then 1 else if !want&&zk a.1.ino f.xs then 2 else 0)
def jh (f:FsV) (p:Lz):zl×Int:=
 let a:=isV f p true
 (a.2.1,if a.2.2≠0 then a.2.2 else if a.2.1.kind=2 then 4 else if a.2.1.kind=3 then 9 else 0)
def Vc (w:qN) (p:Lz) (k:Int) (t:Lz):qN×Int:=
 if (isV w.fs p false).2.2≠0 then (w,(isV w.fs p false).2.2) else ({ w with fs:=(zcL w.fs (isV w.fs p false).1 k t).1 },(zcL w.fs (isV w.fs p false).1 k t).2)
def Vk (w:qN) (o:OpV):qN×Int:=
 if (jh w.fs o.a).2≠0 then (w,(jh w.fs o.a).2) else Vc w o.b 1 (jh w.fs o.a).1.data
def Qj (w:qN) (o:OpV):qN×Int:=
 if (jh w.fs o.a).2≠0 then (w,(jh w.fs o.a).2)
 else if (jh w.fs o.b).2≠0 then (w,(jh w.fs o.b).2)
 else if (jh w.fs o.a).1.ino=(jh w.fs o.b).1.ino then (w,9)
 else if (JS w o.slot (jh w.fs o.b).1.ino).2≠0 then (w,(JS w o.slot (jh w.fs o.b).1.ino).2)
 else if (kO w.fs (jh w.fs o.b).1.ino (jh w.fs o.a).1.data).2≠0 then (w,(kO w.fs (jh w.fs o.b).1.ino (jh w.fs o.a).1.data).2)
 else ({ (JS w o.slot (jh w.fs o.b).1.ino).1 with fs:=(kO w.fs (jh w.fs o.b).1.ino (jh w.fs o.a).1.data).1 },0)
def Vw (w:qN) (o:OpV):qN×Int:=
 let a:=isV w.fs o.a true
 if a.2.2≠0 then (w,a.2.2) else if a.2.1.kind=2 then (w,11)
 else if (isV w.fs o.b false).2.2≠0 then (w,(isV w.fs o.b false).2.2)
 else ({ w with fs:=kj w.fs (isV w.fs o.b false).1 a.2.1.ino },0)
def JN (w:qN) (o:OpV):qN×Int:=
 if (isV w.fs o.a true).2.2≠0 then (w,(isV w.fs o.a true).2.2)
 else if (isV w.fs o.b false).2.2≠0 then (w,(isV w.fs o.b false).2.2)
 else ({ w with fs:=jx w.fs (isV w.fs o.a true).1 (isV w.fs o.b false).1 },0)
def qM (w:qN) (o:OpV):qN×Int:=
 let a:=isV w.fs o.a true
 if a.2.2≠0 then (w,a.2.2) else if a.2.1.es≠[] then (w,5) else JT w o.slot a.1
def doV (w:qN) (o:OpV):qN×Int:=
 if !kY o then (w,12)
 else if o.kind=1 then Vc w o.a 2 []
 else if o.kind=2 then Vk w o
 else if o.kind=3 then Qj w o
 else if o.kind=4 then Vc w o.a 3 o.d
 else if o.kind=5 then Vw w o
 else if o.kind=6 then JN w o
 else qM w o
def Ja (ks:List zW):Int:=match ks.getLast? with | some k=>k.slot | none=>0
structure zY where
 w:qN
 ops:List OpV
 diags:List Lz
 status:Int
 slot:Int
deriving DecidableEq,Inhabited
def Nj (w:qN):zY:=⟨w,[],[],0,Ja w.kept⟩
def Q5 (d:zY) (o:OpV):OpV:={ o with slot:=if o.kind=3∨o.kind=7 then d.slot+1 else 0 }
def Xp (d:zY) (o:OpV):zY×Int:=
 if 7<o.kind then (d,12)
 else if (doV d.w (Q5 d o)).2≠0 then (d,(doV d.w (Q5 d o)).2)
 else (⟨(doV d.w (Q5 d o)).1,d.ops++[Q5 d o],d.diags,d.status,if 0<(Q5 d o).slot then (Q5 d o).slot else d.slot⟩,0)
end
variable {w:qN} {ks:List zW}
section
open CA CB
open Go.RowKit
theorem zcA (a b:Lz):Fun Tryz.prog G0 260 [.str a,.str b] (.sc (.int .i64 (Lib.compareBytes a b))) 0:=by
 refine Fun.wrap (by kernel_rfl) fun R vs h=>?_;obtain ⟨v1,us1,rfl,h1,h⟩:=zh.1 h;obtain ⟨v2,us2,rfl,h2,h⟩:=zh.1 h;rw[zm]at h;subst h;rw[z8]at h1 h2;subst h1 h2;refine (Tryz.strings_Compare ⟨a.toArray⟩ ⟨b.toArray⟩ R.w).mono ?_;rintro e w' ⟨rfl,rfl⟩;exact ⟨_,rfl,W9 _ _,fun R' _=>zq.2 (by simp)⟩
section
variable {G:zr}
theorem uo (e:zO) (n:Lz):Fun Tryz.prog G 259 [.agg (Gu e),.str n] (.sc (.int .i64 (Lib.compareBytes e.name n))) 0:=by
 have h:=(zcA e.name n).glob0 (G':=G);refine fon Tryz.func259 ?_;dsimp only[Tryz.f259];push_cast;refine cl h ?_;push_cast;exact dn
theorem N1 (es:List zO) (n:Lz) (hl:es.length<=100000) (hR:qL Jv zO.name es) :
  Fun Tryz.prog G 258 [.sl 2 (zQ es),.str n,.clo (.func 259) [] []] (.tup [.sc (.int .i64 (qr Jv zO.name n es:Nat)),.sc (.bool (JB zO.name n es))]) 0:=by
 refine fon Tryz.func258 ?_;dsimp only[Tryz.f258];push_cast;refine loop (fun p:Nat×Nat=>⟨[(0,.sl 2 (zQ es)),(1,.str n),(2,.clo (.func 259) [] []),(8,.sc (.int .i64 (es.length:Nat))),(9,.sc (.int .i64 p.1)),(10,.sc (.int .i64 p.2))],[],0,0⟩)
  (fun p=>p.1<=p.2/\p.2<=es.length/\(∀ t (h:t<es.length),t<p.1->(Jv).lt (zO.name es[t]) n=true)/\∀ t (h:t<es.length),p.2<=t->(Jv).lt (zO.name es[t]) n=false) (fun p=>p.2-p.1) (0,es.length) ⟨Wd _,Wb _,fun t _ h=>by (simp at h),fun t h h'=>by (dsimp only at h';omega)⟩ ?_ ?_
 ·exact wk (by push_cast [ze,zd,CLe,zg,We])
 ·rintro ⟨i,j⟩ ⟨h1,h2,h3,h4⟩;dsimp only at h1 h2 h3 h4 ⊢;by_cases h:i<j
  ·obtain ⟨m,hm⟩:∃ m,m=(i+j) / 2:=⟨_,rfl⟩;have hmi:((i:Int)+(j:Int)) / 2=(m:Int):=by omega
   have hml:m<es.length:=by omega
   have hat:=JV es m hml;have hlt:=(zfz es[m].name n).to_iff;push_cast [h,hmi,hat]
   repeat refine an ?_
   refine cl ((uo es[m] n)) ?_;push_cast;cases hc:(Jv).lt (zO.name es[m]) n with
   | true =>
    have hcv:(Lib.compareBytes es[m].name n<0)=True:=eq_true (hlt.mpr hc);push_cast [hcv]
    repeat refine an ?_
    refine ⟨(m+1,j),⟨by omega,h2,fun t ht hlt2=>?_,h4⟩,by dsimp only;omega,wk⟩;dsimp only at hlt2;rcases Wq t m with q | q
    ·exact (Jv).tr ((WQ.1 hR) t m ht hml q) hc
    ·have:t=m:=by omega
     subst this;exact hc
   | false =>
    have hcv:(Lib.compareBytes es[m].name n<0)=False:=WH (fun e=>by have h7:(Jv).lt (zO.name es[m]) n=true:=hlt.mp e;rw[hc]at h7;cases h7);push_cast [hcv]
    repeat refine an ?_
    refine ⟨(i,m),⟨by omega,by omega,h3,fun t ht hge=>?_⟩,by dsimp only;omega,wk⟩;dsimp only at hge;rcases Wq m t with q | q
    ·cases h9:(Jv).lt (zO.name es[t]) n with
     | false=>rfl
     | true=>have:=(Jv).tr ((WQ.1 hR) m t hml ht q) h9;rw[hc]at this;cases this
    ·have:t=m:=by omega
     subst this;exact hc
  ·have hij:i=j:=by omega
   subst hij;have hrk:=ZS (o:=Jv) (key:=zO.name) n es i h2 h3 h4;push_cast [h];refine br (fun hx=>?_) (fun hx=>?_)
   ·have hx:i<es.length:=by simpa using hx
    have hat:=JV es i hx;have hh:=yp n hR hrk hx;push_cast [hx,hat]
    repeat refine an ?_
    refine cl ((uo es[i] n)) ?_;push_cast;have hcv:decide (Lib.compareBytes es[i].name n=0)=JB zO.name n es:=by
     rw[hh];exact A8.2 (zeQ es[i].name n).to_iff
    push_cast [hcv];exact dn (by push_cast [ze,zd,CLe,zg,hrk])
   ·have hx:¬i<es.length:=by simpa using hx
    have hh:=Gm n hR (by omega);push_cast [hx];exact dn (by push_cast [ze,zd,CLe,zg,hrk,hh])
theorem yK (es:List zO) (n:Lz) (hl:es.length<=100000) (hR:Jw es):Fun Tryz.prog G 224 [.sl 2 (zQ es),.str n] (.tup [.sc (.int .i64 (qr Jv zO.name n es:Nat)),.sc (.bool (JB zO.name n es))]) 0:=by
 refine fon Tryz.func224 ?_;dsimp only[Tryz.f224];push_cast;refine cl (N1 es n hl hR) ?_;push_cast;exact dn
theorem MI (es:List zO) (n:Lz) (hl:es.length<=100000) (hR:Jw es):Fun Tryz.prog G 177 [.sl 2 (zQ es),.str n] (.tup [.sc (.int .i64 (zK n es)),.sc (.bool (Yb n es))]) 0:=by
 obtain ⟨_,_,h3,h4⟩:=Ue n hR;have h:=yK (G:=G) es n hl hR;cases hh:JB zO.name n es with
 | false =>
  have hf:zK n es=0:=by unfold zK;rw[(h4 hh).1]
  have he:Yb n es=false:=hh;rw[hh]at h;refine fon Tryz.func177 ?_;dsimp only[Tryz.f177];push_cast;refine cl h ?_;push_cast;exact dn (by push_cast [ze,zd,CLe,zg,hf,he])
 | true =>
  obtain ⟨hlt,_,g2,_⟩:=h3 hh;have hf:zK n es=es[qr Jv zO.name n es].ino:=by unfold zK;rw[g2]
  have he:Yb n es=true:=hh;have hat:=JV es _ hlt;rw[hh]at h;refine fon Tryz.func177 ?_;dsimp only[Tryz.f177];push_cast;refine cl h ?_;push_cast [hat]
  repeat refine an ?_
  exact dn (by push_cast [ze,zd,CLe,zg,hf,he])
end
end
section
open CA CB
open Go.RowKit
section
variable {G:zr}
theorem qY {es:List zO}:∀ r∈zQ es,r.length=2:=fun r hr=>by
 obtain ⟨x,_,rfl⟩:=WP.1 hr;rfl
theorem jf {es:List zO}:jn (zQ es):=fun r hr=>by
 obtain ⟨x,_,rfl⟩:=WP.1 hr;rfl
theorem uP {c:Nat} {rows:List (List C)} (hk:∀ r∈rows,r.length=k) (hi:i<=rows.length):(qx k rows c).take (i*k)=(rows.take i).flatten:=by
 have hf:=qt hk;have h1:i*k<=rows.length*k:=WO _ hi;unfold qx;rw[ON (by omega),Zp hk]
theorem zjS {es:List zO} {c r:Nat} {i:Int} (hr:r<es.length) :
  (qx 2 (zQ es) c).take (r*2+1)++[C.sc (.int .i64 i)]++(qx 2 (zQ es) c).drop (r*2+1+1)=qx 2 (zQ (es.set r ⟨es[r].name,i⟩)) c:=by
 have hll:(zQ es).length=es.length:=We ..;have h:=uz (c:=c) (row:=Gu ⟨es[r].name,i⟩) (i:=r) qY rfl (show r<(zQ es).length by omega);have e1:(zQ es).set r (Gu ⟨es[r].name,i⟩)=zQ (es.set r ⟨es[r].name,i⟩):=by simp[List.map_set]
 rw[e1]at h;rw[←h];have t0:=uP (c:=c) (i:=r) (qY (es:=es)) (by omega);have t1:=uP (c:=c) (i:=r+1) (qY (es:=es)) (by omega);have e2:((zQ es).take (r+1)).flatten=((zQ es).take r).flatten++Gu es[r]:=by
  rw[WV,JV es r hr];simp
 have e3:(qx 2 (zQ es) c).take (r*2+1)=(qx 2 (zQ es) c).take (r*2)++[C.str es[r].name]:=by
  have e4:(qx 2 (zQ es) c).take (r*2+1)=((qx 2 (zQ es) c).take ((r+1)*2)).take (r*2+1):=by rw[BT,OA (by omega)]
  have hl0:((zQ es).take r).flatten.length=r*2:=by
   rw[qt (k:=2) fun x hx=>qY x (Wx hx),W5,hll,OA (by omega)]
  rw[e4,t1,e2,t0,AH,hl0,Wg (by omega),show r*2+1-r*2=1 by omega]
  rfl
 rw[e3];simp
theorem zdx (es:List zO) (n:Lz) (i:Int) (hl:es.length<=90000) (hR:Jw es) :
  Fun Tryz.prog G 270 [.sl 2 (zQ es),.str n,.sc (.int .i64 i)] (.own 0 112 2 (zQ (zU n i es))) 1:=by
 obtain ⟨_,_,h3,h4⟩:=Ue n hR;have hll:(zQ es).length=es.length:=We ..;have hat:=yK (G:=G) es n (by omega) hR;have hrl:=Zz (o:=Jv) (key:=zO.name) n es;refine foF (fun _=>[]) Tryz.func270 ?_;dsimp only[Tryz.f270];push_cast;refine cl hat ?_;push_cast;refine jy [] [] (zaB (zQ es) qY jf (by omega)) rfl (by decide) (by decide) (by simp) (by push_cast) (by push_cast) (fun r bx' m hp=>?_);obtain ⟨rfl,⟨hne,c,h1,h2,rfl,rfl⟩ | ⟨he,⟨rfl,rfl⟩ | ⟨rfl,rfl⟩⟩⟩:=hp
 ·have hbl:=JH qY h1;have hre:∀ fp fo,C.reL fp fo (qx 2 (zQ es) c)=qx 2 (zQ es) c:=fun fp fo=>zE (zG jf);have hpos:=WG.2 hne;cases hh:JB zO.name n es with
  | true =>
   obtain ⟨hlt,g1,g2,g3,g4⟩:=h3 hh;have hset:zU n i es=es.set (qr Jv zO.name n es) ⟨n,i⟩:=g4 ⟨n,i⟩ rfl;have hbs:=zjS (c:=c) (i:=i) hlt;rw[g1,←hset]at hbs;have hwl:(zU n i es).length=es.length:=by rw[hset,Bq]
   push_cast [hh,hre];rw[hbs];refine ⟨by omega,by omega,by rw[hbl];omega,[(1,112,2,zQ (zU n i es),c)],[.inl 0],zB rfl (by omega) (by rw[We,hwl];omega) h2 qY jf,rfl,rfl,?_⟩;rw[hll,←hwl];push_cast [ze,zd,CLe,zg,show (zQ (zU n i es)).length=(zU n i es).length from We ..]
  | false =>
   have hw:zU n i es=es.take (qr Jv zO.name n es)++⟨n,i⟩ :: es.drop (qr Jv zO.name n es):=by
    unfold zU;rw[(h4 hh).2.1];exact (h4 hh).2.2 ⟨n,i⟩ rfl
   have hset:zQ (zU n i es)=(zQ es).take (qr Jv zO.name n es)++Gu ⟨n,i⟩ :: (zQ es).drop (qr Jv zO.name n es):=by rw[hw];simp
   have hsl:(zQ (zU n i es)).length=(zQ es).length+1:=by rw[hset];simp;omega
   push_cast [hh,hre];refine jy [1] [0] (uj (e:=112) (zQ es) (Gu ⟨n,i⟩) (qr Jv zO.name n es) c qY rfl jf rfl (by omega) (by omega) h1 h2) rfl (by decide) (by decide) (by simp) (by push_cast) (by push_cast [hre]) (fun r bx' m hp=>?_);rw[←hset]at hp;have hre2:∀ fp fo c,C.reL fp fo (qx 2 (zQ (zU n i es)) c)=qx 2 (zQ (zU n i es)) c:=fun fp fo c=>zE (zG jf);obtain ⟨rfl,c',g1,g2,⟨rfl,rfl⟩ | ⟨rfl,rfl⟩⟩:=hp
   ·push_cast [hre2,hre];exact ⟨[(1,112,2,zQ (zU n i es),c')],[.inl 1],zB rfl (by omega) g1 g2 qY jf,rfl,rfl,by push_cast [ze,zd,CLe,zg]⟩
   ·have hra:∀ fp fo,C.reL fp fo (List.replicate (c*2) .any)=List.replicate (c*2) .any:=fun fp fo=>zE (by simp[OE,C.stayB]);push_cast [hre2,hre,hra];exact ⟨[(2,112,2,zQ (zU n i es),c')],[.inl 1],zB rfl (by omega) g1 g2 qY jf,rfl,rfl,by push_cast [ze,zd,CLe,zg]⟩
 ·have he:es = []:=by simpa using he
  have hh:JB zO.name n es=false:=by rw[he];rfl
  have hr0:qr Jv zO.name n es=0:=by rw[he];rfl
  have hset:zU n i es = [⟨n,i⟩]:=by rw[he];rfl
  push_cast [hh,hr0];refine jy [] [0] (zg1 (e:=112) (Gu ⟨n,i⟩) rfl rfl) rfl (by decide) (by decide) (by simp) (by push_cast) (by push_cast) (fun r bx' m hp=>?_);obtain ⟨rfl,c,g1,g2,rfl,rfl⟩:=hp;have hre:∀ fp fo,C.reL fp fo (qx 2 [Gu ⟨n,i⟩] c)=qx 2 [Gu ⟨n,i⟩] c:=fun fp fo=>zE (zG (jf (es:=[⟨n,i⟩])));push_cast [hre];exact ⟨[(0,112,2,zQ [⟨n,i⟩],c)],[.inl 1],zB rfl (by omega) g1 g2 qY jf,rfl,rfl,by push_cast [ze,zd,CLe,zg,hset]⟩
 ·have he:es = []:=by simpa using he
  have hh:JB zO.name n es=false:=by rw[he];rfl
  have hr0:qr Jv zO.name n es=0:=by rw[he];rfl
  have hset:zU n i es = [⟨n,i⟩]:=by rw[he];rfl
  push_cast [hh,hr0];refine jy [0] [0] (uj (e:=112) [] (Gu ⟨n,i⟩) 0 0 (fun r hr=>by cases hr) rfl (fun r hr=>by cases hr) rfl (by simp) (by simp) (by simp) (by simp)) rfl (by decide) (by decide) (by simp) (by push_cast) (by push_cast [qx]) (fun r bx' m hp=>?_);obtain ⟨rfl,c,g1,g2,hp⟩:=hp;have hre:∀ fp fo,C.reL fp fo (qx 2 [Gu ⟨n,i⟩] c)=qx 2 [Gu ⟨n,i⟩] c:=fun fp fo=>zE (zG (jf (es:=[⟨n,i⟩])));rcases hp with ⟨rfl,rfl⟩ | ⟨rfl,rfl⟩
  ·push_cast [hre];exact ⟨[(0,112,2,zQ [⟨n,i⟩],c)],[.inl 1],zB rfl (WI (AT _) g1) g1 g2 qY jf,rfl,rfl,by push_cast [ze,zd,CLe,zg,hset]⟩
  ·push_cast [hre];exact ⟨[(1,112,2,zQ [⟨n,i⟩],c)],[.inl 1],zB rfl (WI (AT _) g1) g1 g2 qY jf,rfl,rfl,by push_cast [ze,zd,CLe,zg,hset]⟩
end
end
section
open CA CB
open Go.RowKit
section
variable {G:zr}
theorem zlp {A B Z:List C} {r:Nat} (hA:A.length=r*2) (hB:B.length=(k-r)*2) (hZ:Z.length=k*2) (hr:r<=k):spl (A++Z.drop (r*2)) (r*2) (B.take ((k-r)*2))=A++B:=by
 unfold spl;rw[Wg (l:=B) (by omega),ON (by omega),Wg (l:=A) (by omega),OG (l:=A++Z.drop (r*2)) (by rw[Wk,W6];omega),W0]
theorem VZ (es:List zO) (n:Lz) (hl:es.length<=90000) (hR:Jw es) (hh:JB zO.name n es=true) :
  Fun Tryz.prog G 272 [.sl 2 (zQ es),.str n] (.own 0 112 2 (zQ (zi n es))) 1:=by
 obtain ⟨_,_,h3,h4⟩:=Ue n hR;have hll:(zQ es).length=es.length:=We ..;have hat:=yK (G:=G) es n (by omega) hR;have hrl:=Zz (o:=Jv) (key:=zO.name) n es;rw[hh]at hat;obtain ⟨hlt,g1,g2,g3,g4⟩:=h3 hh;have hw:zi n es=es.take (qr Jv zO.name n es)++es.drop (qr Jv zO.name n es+1):=g3;obtain ⟨k,hk⟩:∃ k,es.length=k+1:=⟨es.length-1,by omega⟩;have hkc:(zQ es).length=k+1:=by omega
 have hn:((zQ es).length:Int)-1=(k:Int):=by omega
 have hwl:(zi n es).length=k:=by rw[hw];simp;omega
 generalize qr Jv zO.name n es=r at *;have hm:min r k=r:=by omega
 rcases O2 k with h1 | h1
 ·subst h1;obtain rfl:r=0:=by omega
  have hn:((zQ es).length:Int)-1=0:=hn;have hwe:zi n es = []:=As.1 hwl;refine fof (fun i=>if i=5 then QW [(0,.pure),(1,.pure),(2,.pure),(3,.pure),(4,.pure),(7,.pure),(8,.pure),(9,.pure),(10,.pure),(5,.flt [0,5,6,7,8]),(6,.pure),(11,.bar)] else []) Tryz.func272 ?_;dsimp only[Tryz.f272];push_cast;refine cl hat ?_;push_cast [hn,Int.toNat_zero];refine ⟨by omega,by omega,zoT (m:=0) (xs:=[]) QS Yj rfl rfl (fun _ _ _ _ _ h=>by cases h) rfl ?_⟩;push_cast;have hd:(zQ es).drop 1 = []:=OG (by omega);rw[hd];refine ⟨⟨by split<;>first | omega | trivial,by split<;>first | omega | trivial⟩,zoT (m:=0) (xs:=[]) QS Yj rfl rfl (fun _ _ _ _ _ h=>by cases h) rfl ?_⟩;push_cast;exact ⟨[.inl 0],rfl,rfl,by push_cast [ze,zd,CLe,zg,hwe]⟩
 ·refine foF (fun i=>if i=5 then QW [(0,.pure),(1,.pure),(2,.pure),(3,.pure),(4,.pure),(7,.pure),(8,.pure),(9,.pure),(10,.pure),(5,.flt [0,5,6,7,8]),(6,.pure),(11,.bar)] else if i=1000000+62 then [true,true] else []) Tryz.func272 ?_;dsimp only[Tryz.f272];push_cast;refine cl hat ?_;push_cast [hn,Aj];have hA:((zQ es).take r).flatten.length=r*2:=by
   rw[qt (k:=2) fun x hx=>qY x (Wx hx),W5,hkc,OA (by omega)]
  have hB:((zQ es).drop (r+1)).flatten.length=(k-r)*2:=by
   rw[qt (k:=2) fun x hx=>qY x (WT hx),W6,hkc];omega
  have hZ:((List.replicate k [C.str [],C.sc (.int .i64 0)]).flatten).length=k*2:=by simp
  refine ⟨⟨by omega,by omega⟩,by omega,by omega,by omega,by omega,⟨by omega,by omega⟩,⟨by omega,by omega⟩,⟨by omega,by omega⟩,zma (m:=r) (xs:=((zQ es).take r).flatten) QS Yj (by simp[C.xs?,C.rows?,hkc];omega) rfl hA (by rw[hZ];omega) ?_⟩;rw[hm];push_cast;have hS:spl (List.replicate k [C.str [],C.sc (.int .i64 0)]).flatten 0 (((zQ es).take r).flatten.take (r*2))=((zQ es).take r).flatten++((List.replicate k [C.str [],C.sc (.int .i64 0)]).flatten).drop (r*2):=by
   unfold spl;rw[Oy,OV,Ot,Wg (by omega),hA]
  have hm2:min (k-r) (k-r)=k-r:=Nat.min_self _;rw[hS];refine ⟨⟨by split<;>first | exact ⟨by omega,by omega⟩ | trivial,by split<;>first | exact ⟨by omega,by omega⟩ | trivial,by split<;>first | exact ⟨by omega,by omega⟩ | trivial⟩,Wb _,⟨by omega,by omega⟩,zma (m:=k-r) (xs:=((zQ es).drop (r+1)).flatten) QS Yj (by simp[C.xs?,C.rows?,hkc]) rfl hB (by rw[Wk,W6,hA,hZ];omega) ?_⟩;rw[hm2];push_cast;have hwc:(zQ (zi n es)).length=k:=(We ..).trans hwl;have hF:spl (((zQ es).take r).flatten++((List.replicate k [C.str [],C.sc (.int .i64 0)]).flatten).drop (r*2)) (r*2) (((zQ es).drop (r+1)).flatten.take ((k-r)*2))=qx 2 (zQ (zi n es)) k:=by
   rw[zlp hA hB hZ (by omega)];unfold qx;rw[hwc,Nat.sub_self,Nat.zero_mul,hw];simp
  rw[hF];refine ⟨[(0,112,2,zQ (zi n es),k)],[.inl 0],zB rfl h1 (by omega) (by omega) qY jf,rfl,rfl,?_⟩;push_cast [ze,zd,CLe,zg,hwc]
end
end
section
theorem ZL (n:Int) (xs:List zl):zk n xs=(Xc n xs).isSome:=by
 unfold zk Xc
 induction xs with
 | nil=>rfl
 | cons y r ih =>
  rw[AS,OQ];cases h:(y.ino==n) with
  | true=>rfl
  | false=>rw[O0,ih]
theorem GM (h:Xc n xs=some x):x.ino=n/\x∈xs:=by
 unfold Xc at h;have h1:=List.find?_some h;exact ⟨by simpa using h1,Bi h⟩
theorem u0 (n:Int) (x:zl):∀ xs:List zl,(∀ z∈xs,z.ino≠x.ino)->Xc n (ZV x xs)=if x.ino=n then some x else Xc n xs
 | [],_=>by
  unfold ZV Xc;by_cases h:x.ino=n<;>simp[h]
 | y :: r,hn=>by
  have hy:=hn y Wi;have ih:=u0 n x r fun z hz=>hn z (Wl _ hz);unfold Xc at ih ⊢;unfold ZV;split
  ·by_cases h:x.ino=n
   ·simp[h]
   ·simp[h,OQ]
  ·by_cases h:x.ino=n
   ·rw[if_pos h]at ih ⊢;have hyn:(y.ino==n)=false:=by simp;omega
    rw[OQ,hyn];exact ih
   ·rw[if_neg h]at ih ⊢;rw[OQ,OQ,ih]
theorem ZO (n m:Int):∀ xs:List zl,Xc n (qc m xs)=if n=m then none else Xc n xs
 | []=>by unfold Xc qc;simp
 | y :: r=>by
  have ih:=ZO n m r;by_cases hy:y.ino=m
  ·rw[Jc hy,ih];by_cases h:n=m
   ·rw[if_pos h,if_pos h]
   ·rw[if_neg h,if_neg h];have hyn:(y.ino==n)=false:=by simp;omega
    unfold Xc;rw[OQ,hyn]
  ·rw[JQ hy];unfold Xc at ih ⊢;rw[OQ,OQ,ih];by_cases h:n=m
   ·have hyn:(y.ino==n)=false:=by simp;omega
    simp only[hyn,if_pos h]
   ·simp only[if_neg h]
theorem zme:∀ z∈qc n xs,z.ino≠n:=fun z hz=>by
 unfold qc at hz;simpa using (Ov.1 hz).2
theorem vW (n:Int) (x:zl) (xs:List zl):Xc n (qp x xs)=if x.ino=n then some x else Xc n xs:=by
 unfold qp;rw[u0 n x _ zme,ZO];by_cases h:x.ino=n
 ·rw[if_pos h,if_pos h]
 ·rw[if_neg h,if_neg h,if_neg (fun e=>h e.symm)]
theorem qT (n:Int) (x:zl) (xs:List zl):zk n (qp x xs)=(decide (x.ino=n)||zk n xs):=by
 rw[ZL,vW,ZL];by_cases h:x.ino=n<;>simp[h]
theorem YT (n m:Int) (xs:List zl):zk n (qc m xs)=(!decide (n=m)&&zk n xs):=by
 rw[ZL,ZO,ZL];by_cases h:n=m<;>simp[h]
theorem Mb {x:zl}:∀ {xs:List zl},zZ xs->Xc x.ino xs=some x->qp x xs=xs
 | [],_,h=>by unfold Xc at h;simp at h
 | y :: r,hR,h=>by
  obtain ⟨h1,h2⟩:=jW.1 hR;by_cases hy:y.ino=x.ino
  ·have e:y=x:=by
    unfold Xc at h;rw[AA (by simpa using hy)]at h;simpa using h
   subst e;have hb:zk y.ino r=false:=Vo h1;unfold qp;rw[Jc rfl,Qt hb,zgC h1]
  ·have hx:Xc x.ino r=some x:=by
    unfold Xc at h ⊢;rwa [Ah (by simpa using hy)]at h
   have hlt:=h1 x (GM hx).2;rw[Q4 hlt,Mb h2 hx]
theorem zlG:∀ {x:zl},zZ xs->(x∈xs↔Xc x.ino xs=some x):=by
 induction xs with
 | nil=>intro x _;simp[Xc]
 | cons y r ih =>
  intro x hR;obtain ⟨h1,h2⟩:=jW.1 hR;constructor
  ·intro hx;rcases WK.1 hx with rfl | hx
   ·unfold Xc;rw[AA (by simp)]
   ·have:=h1 x hx;unfold Xc;rw[Ah (by simp;omega)];exact (ih h2).1 hx
  ·intro h;exact (GM h).2
def Ns (g:zl->Nat) (xs:List zl):Nat:=(xs.map g).sum
theorem ZP (g:zl->Nat) {n:Int}:∀ {xs:List zl},zZ xs->Ns g xs=Ns g (qc n xs)+(match Xc n xs with | some x=>g x | none=>0)
 | [],_=>rfl
 | y :: r,hR=>by
  obtain ⟨h1,h2⟩:=jW.1 hR;have ih:=ZP g (n:=n) h2;unfold Ns at ih ⊢;by_cases hy:y.ino=n
  ·have hb:zk n r=false:=Vo fun z hz=>by have:=h1 z hz;omega
   have hg:Xc n (y :: r)=some y:=by unfold Xc;rw[AA (by simpa using hy)]
   rw[hg,Jc hy,Qt hb];simp;omega
  ·have hg:Xc n (y :: r)=Xc n r:=by unfold Xc;rw[Ah (by simpa using hy)]
   rw[hg,JQ hy];simp only[WC,OS];omega
theorem um (g:zl->Nat) (x:zl):∀ xs:List zl,Ns g (ZV x xs)=Ns g xs+g x
 | []=>by unfold ZV Ns;simp
 | y :: r=>by
  have ih:=um g x r;unfold Ns at ih ⊢;unfold ZV;split
  ·simp;omega
  ·simp only[WC,OS];omega
theorem Ur (g:zl->Nat) {x:zl} {xs:List zl} (hR:zZ xs):Ns g (qp x xs)+(match Xc x.ino xs with | some y=>g y | none=>0)=Ns g xs+g x:=by
 unfold qp;rw[um,ZP g (n:=x.ino) hR];omega
end
section
def J3 (n:Int) (x:zl):Nat:=(x.es.filter fun e=>decide (e.ino=n)).length
def JX (n:Int) (xs:List zl):Nat:=Ns (J3 n) xs
structure FsI (f:FsV):Prop where
 rises:zZ f.xs
 ino:∀ x∈f.xs,1<=x.ino/\x.ino<f.next
 kind:∀ x∈f.xs,x.kind=1∨x.kind=2∨x.kind=3
 es:∀ x∈f.xs,Jw x.es
 file:∀ x∈f.xs,x.kind≠2->x.es = []
 led:∀ x∈f.xs,∀ e∈x.es,zk e.ino f.xs=true
 links:∀ x∈f.xs,x.links=(JX x.ino f.xs:Int)
 root:zk 1 f.xs=true
 base:(zf 1 f.xs).kind=2
 bare:JX 1 f.xs=0
theorem zj (h:zk n xs=true):Xc n xs=some (zf n xs)/\zf n xs∈xs/\(zf n xs).ino=n:=by
 rw[ZL]at h;obtain ⟨x,hx⟩:=AJ.1 h;have e:zf n xs=x:=by unfold zf;rw[hx];rfl
 obtain ⟨h1,h2⟩:=GM hx;rw[e];exact ⟨hx,h2,h1⟩
theorem j4 (h:zk n xs=false):Xc n xs=none/\zf n xs=Nt:=by
 have h1:=Gr h;exact ⟨h1,by unfold zf;rw[h1];rfl⟩
theorem qD (n:Int) (x:zl) (xs:List zl):zf n (qp x xs)=if x.ino=n then x else zf n xs:=by
 unfold zf;rw[vW];split<;>rfl
theorem Zx (n m:Int) (xs:List zl):zf n (qc m xs)=if n=m then Nt else zf n xs:=by
 unfold zf;rw[ZO];split<;>rfl
theorem qw {z:zl}:z∈qp x xs↔z=x∨(z∈xs/\z.ino≠x.ino):=by
 unfold qp;rw[G3];unfold qc;simp
theorem Y7 {z:zl}:z∈qc n xs↔z∈xs/\z.ino≠n:=by
 unfold qc;simp
theorem J6 (h:x∈xs):zk x.ino xs=true:=by
 unfold zk;exact Ou.2 ⟨x,h,by simp⟩
theorem ui {α κ:Type} [DecidableEq κ] {o:zh7 κ} {key:α->κ} (p:α->Bool) (x:α):∀ xs:List α,((Vi o key x xs).filter p).length=(xs.filter p).length+if p x then 1 else 0
 | []=>by unfold Vi;cases h:p x<;>simp[h]
 | y :: r=>by
  have ih:=ui (o:=o) (key:=key) p x r;unfold Vi;split
  ·cases h:p x<;>simp[h,O8]
  ·rw[O8,O8];cases h:p y
   ·simpa using ih
   ·simp[ih];omega
theorem zeE [DecidableEq κ] {o:zh7 κ} {key:α->κ} (p:α->Bool) {n:κ} {xs:List α} (hR:qL o key xs) {e:α} (h:qA key n xs=some e):(xs.filter p).length=((Yt key n xs).filter p).length+if p e then 1 else 0:=by
 obtain ⟨_,_,h3,h4⟩:=Ue n hR;cases hh:JB key n xs with
 | false=>rw[(h4 hh).1]at h;cases h
 | true =>
  obtain ⟨g,_,g2,g3,_⟩:=h3 hh;rw[g2]at h;simp only[Option.some.injEq]at h;have e0:xs=xs.take (qr o key n xs)++e :: xs.drop (qr o key n xs+1):=by
   rw[←h,←Of g,W2]
  rw[g3]
  conv=>lhs;rw[e0]
  rw[O5,O5,O8];cases hp:p e<;>simp<;>omega
theorem zS [DecidableEq κ] {key:α->κ} {n:κ} {xs:List α} {e:α} (h:qA key n xs=some e):key e=n/\e∈xs:=by
 unfold qA at h;exact ⟨by have:=List.find?_some h;simpa using this,Bi h⟩
theorem qh [DecidableEq κ] {key:α->κ} {n:κ} {xs:List α}:JB key n xs=(qA key n xs).isSome:=by
 unfold JB qA
 induction xs with
 | nil=>rfl
 | cons y r ih =>
  rw[AS,OQ];cases h:decide (key y=n) with
  | true=>rfl
  | false=>rw[O0,ih]
theorem U1 {m:Int} (hR:zZ xs) (hh:zk n xs=true) (hx:x.ino=n):JX m (qp x xs)+J3 m (zf n xs)=JX m xs+J3 m x:=by
 have h:=Ur (J3 m) (x:=x) hR;rw[hx,(zj hh).1]at h;exact h
theorem zdV {m:Int} (hR:zZ xs) (hh:zk x.ino xs=false):JX m (qp x xs)=JX m xs+J3 m x:=by
 have h:=Ur (J3 m) (x:=x) hR;rw[(j4 hh).1]at h;exact h
theorem ziG {m:Int} (hR:zZ xs) (hh:zk n xs=true):JX m xs=JX m (qc n xs)+J3 m (zf n xs):=by
 have h:=ZP (J3 m) (n:=n) hR;rw[(zj hh).1]at h;exact h
theorem zjU (h:∀ x∈xs,∀ e∈x.es,e.ino≠n):JX n xs=0:=by
 unfold JX Ns;rw[List.sum_eq_zero_iff_forall_eq_nat];intro k hk;obtain ⟨x,hx,rfl⟩:=WP.1 hk;unfold J3;rw[As,AR];intro e he;simpa using h x hx e he
theorem Zs (h:JX n xs=0):∀ x∈xs,∀ e∈x.es,e.ino≠n:=fun x hx e he hn=>by
 unfold JX Ns at h;rw[List.sum_eq_zero_iff_forall_eq_nat]at h;have:=h _ (BK hx);unfold J3 at this;rw[As,AR]at this;exact this e he (by simpa using hn)
theorem ZX {m i:Int} {n:Lz} {es:List zO} (hR:Jw es) (h:Yb n es=false):J3 m { x with es:=zU n i es }=J3 m { x with es:=es }+if i=m then 1 else 0:=by
 obtain ⟨_,_,_,h4⟩:=Ue n hR;unfold zU J3;rw[(h4 h).2.1];show ((Vi Jv zO.name ⟨n,i⟩ es).filter _).length=_;rw[ui];by_cases hi:i=m<;>simp[hi]
theorem X9 {m i:Int} {n:Lz} {es:List zO} (hR:Jw es) (h:qA zO.name n es=some ⟨n,i⟩):J3 m { x with es:=es }=J3 m { x with es:=zi n es }+if i=m then 1 else 0:=by
 unfold zi J3;have:=zeE (fun e:zO=>decide (e.ino=m)) hR h;simp only at this ⊢;rw[this];by_cases hi:i=m<;>simp[hi]
theorem Yw {n:Lz} {es:List zO} (h:Yb n es=true):qA zO.name n es=some ⟨n,zK n es⟩:=by
 unfold Yb at h;rw[qh]at h;obtain ⟨e,he⟩:=AJ.1 h;have h1:=(zS he).1;unfold zK;rw[he];cases e with
 | mk a b=>simp at h1 ⊢;exact h1
theorem VE {n:Lz} {i:Int} {es:List zO} (h:Jw es):Jw (zU n i es):=kl (x:=(⟨n,i⟩:zO)) h
theorem J4 {n:Lz} {es:List zO} (h:Jw es):Jw (zi n es):=kN n h
theorem J8 {n:Lz} {i:Int} {es:List zO} {e:zO} (h:e∈zU n i es):e=⟨n,i⟩∨e∈es:=by
 unfold zU at h;rcases Qx.1 h with h | h
 ·exact .inl h
 ·exact .inr (X7.1 h).1
theorem qE {n:Lz} {es:List zO} {e:zO} (h:e∈zi n es):e∈es/\e.name≠n:=X7.1 h
end
section
structure jY (f:FsV) (s:zH):Prop where
 has:zk s.dir f.xs=true
 kind:(zf s.dir f.xs).kind=2
 free:Yb s.name (zf s.dir f.xs).es=false
structure zu (f:FsV) (s:zH):Prop where
 has:zk s.dir f.xs=true
 kind:(zf s.dir f.xs).kind=2
 there:qA zO.name s.name (zf s.dir f.xs).es=some ⟨s.name,s.ino⟩
theorem zu.ino {s:zH} (hf:FsI f) (h:zu f s):zk s.ino f.xs=true:=by
 have:=hf.led _ (zj h.has).2.1 ⟨s.name,s.ino⟩ (zS h.there).2;exact this
abbrev qv (d:zl) (es:List zO):zl:={ d with es:=es }
theorem qy {F:List zO->List zO} (hh:zk n xs=true) {z:zl}:z∈ql n F xs↔z=qv (zf n xs) (F (zf n xs).es)∨(z∈xs/\z.ino≠n):=by
 unfold ql;rw[qw];show z=qv _ _∨(z∈xs/\z.ino≠(zf n xs).ino)↔_;rw[(zj hh).2.2]
theorem zM {m:Int} {F:List zO->List zO} (hh:zk n xs=true):zk m (ql n F xs)=zk m xs:=by
 unfold ql;rw[qT];show (decide ((zf n xs).ino=m)||zk m xs)=_;rw[(zj hh).2.2];by_cases h:n=m
 ·subst h;rw[hh];simp
 ·simp[h]
theorem jI {m:Int} {F:List zO->List zO} (hh:zk n xs=true):zf m (ql n F xs)=if n=m then qv (zf n xs) (F (zf n xs).es) else zf m xs:=by
 unfold ql;rw[qD];show (if (zf n xs).ino=m then _ else _)=_;rw[(zj hh).2.2]
theorem Q0 {m:Int} {F:List zO->List zO} (hR:zZ xs) (hh:zk n xs=true):JX m (ql n F xs)+J3 m (zf n xs)=JX m xs+J3 m (qv (zf n xs) (F (zf n xs).es)):=
 U1 hR hh (zj hh).2.2
theorem Gh (hf:FsI f):zk f.next f.xs=false/\∀ x∈f.xs,∀ e∈x.es,e.ino≠f.next:=by
 have h1:zk f.next f.xs=false:=by
  rw[Ok];intro h;have:=(hf.ino _ (zj h).2.1).2;rw[(zj h).2.2]at this;omega
 refine ⟨h1,fun x hx e he hn=>?_⟩;have:=hf.led x hx e he;rw[hn,h1]at this;cases this
theorem vj (hf:FsI f):1<f.next:=by
 have:=(hf.ino _ (zj hf.root).2.1).2;rw[(zj hf.root).2.2]at this;exact this
theorem zmd (hf:FsI f) {s:zH} (hs:jY f s) (k:Int) (hk:k=1∨k=2∨k=3) (t:Lz):FsI (zbW f s k t):=by
 obtain ⟨n1,n2⟩:=Gh hf;have hd:=(zj hs.has).2.1;have hR1:zZ (ql s.dir (zU s.name f.next) f.xs):=z7 hf.rises;have hn1:zk f.next (ql s.dir (zU s.name f.next) f.xs)=false:=by rw[zM hs.has];exact n1
 have hlt:=vj hf;have hdn:s.dir≠f.next:=fun e=>by have:=hs.has;rw[e,n1]at this;cases this
 refine ⟨z7 hR1,fun x hx=>?_,fun x hx=>?_,fun x hx=>?_,fun x hx hk2=>?_,fun x hx e he=>?_,fun x hx=>?_,?_,?_,?_⟩
 ·rcases qw.1 hx with rfl | ⟨hx,_⟩
  ·exact ⟨by show 1<=f.next;omega,by show f.next<f.next+1;omega⟩
  ·rcases (qy hs.has).1 hx with rfl | ⟨hx,_⟩
   ·have:=hf.ino _ hd;exact ⟨this.1,by show (zf s.dir f.xs).ino<f.next+1;omega⟩
   ·have:=hf.ino _ hx;exact ⟨this.1,by show x.ino<f.next+1;omega⟩
 ·rcases qw.1 hx with rfl | ⟨hx,_⟩
  ·exact hk
  ·rcases (qy hs.has).1 hx with rfl | ⟨hx,_⟩
   ·exact .inr (.inl hs.kind)
   ·exact hf.kind _ hx
 ·rcases qw.1 hx with rfl | ⟨hx,_⟩
  ·exact List.Pairwise.nil
  ·rcases (qy hs.has).1 hx with rfl | ⟨hx,_⟩
   ·exact VE (hf.es _ hd)
   ·exact hf.es _ hx
 ·rcases qw.1 hx with rfl | ⟨hx,_⟩
  ·rfl
  ·rcases (qy hs.has).1 hx with rfl | ⟨hx,_⟩
   ·exact absurd hs.kind hk2
   ·exact hf.file _ hx hk2
 ·show zk e.ino (qp _ _)=true;rw[qT,zM hs.has];show (decide (f.next=e.ino)||zk e.ino f.xs)=true;rcases qw.1 hx with rfl | ⟨hx,_⟩
  ·cases he
  ·rcases (qy hs.has).1 hx with rfl | ⟨hx,_⟩
   ·rcases J8 he with rfl | he
    ·simp
    ·rw[hf.led _ hd e he,BN]
   ·rw[hf.led _ hx e he,BN]
 ·show x.links=(JX x.ino (qp _ _):Int);rw[zdV hR1 hn1];have hc:=Q0 (m:=x.ino) (F:=zU s.name f.next) hf.rises hs.has;have hw:=ZX (m:=x.ino) (i:=f.next) (x:=zf s.dir f.xs) (hf.es _ hd) hs.free;have hz:J3 x.ino (⟨f.next,k,1,t,if k=2 then s.dir else 0,[]⟩:zl)=0:=rfl;have hw:J3 x.ino (qv (zf s.dir f.xs) (zU s.name f.next (zf s.dir f.xs).es))=J3 x.ino (zf s.dir f.xs)+if f.next=x.ino then 1 else 0:=hw;rw[hz];rcases qw.1 hx with rfl | ⟨hx,hxn⟩
  ·have h0:JX f.next f.xs=0:=zjU n2;have hw:J3 f.next (qv (zf s.dir f.xs) (zU s.name f.next (zf s.dir f.xs).es))=J3 f.next (zf s.dir f.xs)+if f.next=f.next then 1 else 0:=hw;rw[if_pos rfl]at hw;show (1:Int)=((JX f.next (ql s.dir (zU s.name f.next) f.xs)+0:Nat):Int);have hc:JX f.next (ql s.dir (zU s.name f.next) f.xs)+J3 f.next (zf s.dir f.xs)=JX f.next f.xs+J3 f.next (qv (zf s.dir f.xs) (zU s.name f.next (zf s.dir f.xs).es)):=hc;omega
  ·have hxn:x.ino≠f.next:=hxn;rw[if_neg fun e=>hxn e.symm]at hw;have hl:x.links=(JX x.ino f.xs:Int):=by
    rcases (qy hs.has).1 hx with rfl | ⟨hx,_⟩
    ·exact hf.links (zf s.dir f.xs) hd
    ·exact hf.links _ hx
   omega
 ·show zk 1 (qp _ _)=true;rw[qT,zM hs.has,hf.root,BN]
 ·show (zf 1 (qp _ _)).kind=2;rw[qD];rw[if_neg (show ¬f.next=1 by omega),jI hs.has];split
  ·exact hs.kind
  ·exact hf.base
 ·show JX 1 (qp _ _)=0;rw[zdV hR1 hn1];have hc:=Q0 (m:=1) (F:=zU s.name f.next) hf.rises hs.has;have hw:J3 1 (qv (zf s.dir f.xs) (zU s.name f.next (zf s.dir f.xs).es))=J3 1 (zf s.dir f.xs)+if f.next=1 then 1 else 0:=ZX (m:=1) (i:=f.next) (x:=zf s.dir f.xs) (hf.es (zf s.dir f.xs) hd) hs.free;have hz:J3 1 (⟨f.next,k,1,t,if k=2 then s.dir else 0,[]⟩:zl)=0:=rfl;have:=hf.bare;rw[if_neg (show ¬f.next=1 by omega)]at hw;omega
theorem zpz (hf:FsI f) {s:zH} (hs:jY f s) (k:Int) (hk:k=1∨k=2∨k=3) (t:Lz):FsI (zcL f s k t).1:=by
 unfold zcL;by_cases h1:may s.name=true
 ·rw[if_pos h1];by_cases h2:Zd f 1 (if k=1 then (t.length:Int) else 0)=true
  ·rw[if_pos h2];exact zmd hf hs k hk t
  ·rw[if_neg h2];exact hf
 ·rw[if_neg h1];exact hf
theorem zmz (hf:FsI f) {i:Int} (hh:zk i f.xs=true) (t:Lz):FsI (XO f i t):=by
 have hg:=zj hh;have hmem:∀ {z:zl},z∈(XO f i t).xs->∃ y∈f.xs,z.ino=y.ino/\z.kind=y.kind/\z.es=y.es/\z.links=y.links:=fun {z} hz=>by
  rcases qw.1 hz with rfl | ⟨hz,_⟩
  ·exact ⟨_,hg.2.1,rfl,rfl,rfl,rfl⟩
  ·exact ⟨_,hz,rfl,rfl,rfl,rfl⟩
 have hhas:∀ m,zk m (XO f i t).xs=zk m f.xs:=fun m=>by
  show zk m (qp _ _)=_;rw[qT];show (decide ((zf i f.xs).ino=m)||_)=_;rw[hg.2.2];by_cases h:i=m
  ·subst h;rw[hh];simp
  ·simp[h]
 have hcnt:∀ m,JX m (XO f i t).xs=JX m f.xs:=fun m=>by
  have h:=U1 (m:=m) (x:={ zf i f.xs with data:=t }) hf.rises hh hg.2.2;have e:J3 m { zf i f.xs with data:=t }=J3 m (zf i f.xs):=rfl;show JX m (qp _ _)=_;omega
 refine ⟨z7 hf.rises,fun x hx=>?_,fun x hx=>?_,fun x hx=>?_,fun x hx hk2=>?_,fun x hx e he=>?_,fun x hx=>?_,by rw[hhas];exact hf.root,?_,?_⟩
 ·obtain ⟨y,hy,e1,_⟩:=hmem hx;rw[e1];exact hf.ino y hy
 ·obtain ⟨y,hy,_,e2,_⟩:=hmem hx;rw[e2];exact hf.kind y hy
 ·obtain ⟨y,hy,_,_,e3,_⟩:=hmem hx;rw[e3];exact hf.es y hy
 ·obtain ⟨y,hy,_,e2,e3,_⟩:=hmem hx;rw[e3];exact hf.file y hy (by rw[←e2];exact hk2)
 ·obtain ⟨y,hy,_,_,e3,_⟩:=hmem hx;rw[hhas];exact hf.led y hy e (by rw[←e3];exact he)
 ·obtain ⟨y,hy,e1,_,_,e4⟩:=hmem hx;rw[hcnt,e4,e1];exact hf.links y hy
 ·show (zf 1 (qp _ _)).kind=2;rw[qD];split
  ·rename_i h;have h:(zf i f.xs).ino=1:=h;rw[hg.2.2]at h;subst h;exact hf.base
  ·exact hf.base
 ·rw[hcnt];exact hf.bare
theorem zmN (hf:FsI f) {s:zH} (hs:jY f s) {i:Int} (hi:zk i f.xs=true) (hk:(zf i f.xs).kind≠2):FsI (kj f s i):=by
 have hd:=zj hs.has;have hx:=zj hi;have hne:s.dir≠i:=fun e=>hk (by rw[←e];exact hs.kind);have hR1:zZ (ql s.dir (zU s.name i) f.xs):=z7 hf.rises;have hi1:zk i (ql s.dir (zU s.name i) f.xs)=true:=by rw[zM hs.has];exact hi
 have hg1:zf i (ql s.dir (zU s.name i) f.xs)=zf i f.xs:=by rw[jI hs.has,if_neg hne]
 have hmem:∀ {z:zl},z∈(kj f s i).xs->z = { zf i f.xs with links:=(zf i f.xs).links+1 }∨z=qv (zf s.dir f.xs) (zU s.name i (zf s.dir f.xs).es)∨(z∈f.xs/\z.ino≠s.dir/\z.ino≠i):=fun {z} hz=>by
  rcases qw.1 hz with rfl | ⟨hz,hzi⟩
  ·exact .inl rfl
  ·have hzi:z.ino≠(zf i f.xs).ino:=hzi;rw[hx.2.2]at hzi;rcases (qy hs.has).1 hz with rfl | ⟨hz,hzd⟩
   ·exact .inr (.inl rfl)
   ·exact .inr (.inr ⟨hz,hzd,hzi⟩)
 have hhas:∀ m,zk m (kj f s i).xs=zk m f.xs:=fun m=>by
  show zk m (qp _ _)=_;rw[qT,zM hs.has];show (decide ((zf i f.xs).ino=m)||_)=_;rw[hx.2.2];by_cases h:i=m
  ·subst h;rw[hi];simp
  ·simp[h]
 have hcnt:∀ m,JX m (kj f s i).xs=JX m f.xs+if i=m then 1 else 0:=fun m=>by
  have h:=U1 (m:=m) (x:={ zf i f.xs with links:=(zf i f.xs).links+1 }) hR1 hi1 hx.2.2;rw[hg1]at h;have e:J3 m { zf i f.xs with links:=(zf i f.xs).links+1 }=J3 m (zf i f.xs):=rfl;have hc:=Q0 (m:=m) (F:=zU s.name i) hf.rises hs.has;have hw:J3 m (qv (zf s.dir f.xs) (zU s.name i (zf s.dir f.xs).es))=J3 m (zf s.dir f.xs)+if i=m then 1 else 0:=ZX (m:=m) (i:=i) (x:=zf s.dir f.xs) (hf.es (zf s.dir f.xs) hd.2.1) hs.free;show JX m (qp _ _)=_;omega
 refine ⟨z7 hR1,fun x hx'=>?_,fun x hx'=>?_,fun x hx'=>?_,fun x hx' hk2=>?_,fun x hx' e he=>?_,fun x hx'=>?_,by rw[hhas];exact hf.root,?_,?_⟩
 ·rcases hmem hx' with rfl | rfl | ⟨h,_⟩
  ·exact hf.ino (zf i f.xs) hx.2.1
  ·exact hf.ino (zf s.dir f.xs) hd.2.1
  ·exact hf.ino _ h
 ·rcases hmem hx' with rfl | rfl | ⟨h,_⟩
  ·exact hf.kind (zf i f.xs) hx.2.1
  ·exact hf.kind (zf s.dir f.xs) hd.2.1
  ·exact hf.kind _ h
 ·rcases hmem hx' with rfl | rfl | ⟨h,_⟩
  ·exact hf.es (zf i f.xs) hx.2.1
  ·exact VE (hf.es (zf s.dir f.xs) hd.2.1)
  ·exact hf.es _ h
 ·rcases hmem hx' with rfl | rfl | ⟨h,_⟩
  ·exact hf.file (zf i f.xs) hx.2.1 hk2
  ·exact absurd hs.kind hk2
  ·exact hf.file _ h hk2
 ·rw[hhas];rcases hmem hx' with rfl | rfl | ⟨h,_⟩
  ·exact hf.led (zf i f.xs) hx.2.1 e he
  ·rcases J8 he with rfl | he
   ·exact hi
   ·exact hf.led (zf s.dir f.xs) hd.2.1 e he
  ·exact hf.led _ h e he
 ·rw[hcnt];rcases hmem hx' with rfl | rfl | ⟨h,_,hzi⟩
  ·have:=hf.links (zf i f.xs) hx.2.1;show (zf i f.xs).links+1=((JX (zf i f.xs).ino f.xs+if i=(zf i f.xs).ino then 1 else 0:Nat):Int);rw[if_pos hx.2.2.symm,this];rfl
  ·have:=hf.links (zf s.dir f.xs) hd.2.1;show (zf s.dir f.xs).links=((JX (zf s.dir f.xs).ino f.xs+if i=(zf s.dir f.xs).ino then 1 else 0:Nat):Int);rw[if_neg (by rw[hd.2.2];exact fun e=>hne e.symm),this];rfl
  ·rw[if_neg fun e=>hzi e.symm];exact hf.links _ h
 ·show (zf 1 (qp _ _)).kind=2;rw[qD];split
  ·rename_i h;have h:(zf i f.xs).ino=1:=h;rw[hx.2.2]at h;subst h;exact hf.base
  ·rw[jI hs.has];split
   ·exact hs.kind
   ·exact hf.base
 ·rw[hcnt,hf.bare,if_neg fun e=>hk (by rw[e];exact hf.base)]
theorem Qk (hf:FsI f) {s:zH} (hs:zu f s):s.ino≠1:=fun e =>
 Zs hf.bare _ (zj hs.has).2.1 _ (zS hs.there).2 e
theorem UR (hf:FsI f) {s:zH} (hs:zu f s) (he:(zf s.ino f.xs).es = []):FsI (zp f s):=by
 have hi:=zu.ino hf hs;have hd:=zj hs.has;have hx:=zj hi;have hr:=Qk hf hs;have hne:s.dir≠s.ino:=fun e=>by
  have:=(zS hs.there).2;rw[e,he]at this;cases this
 have hR1:zZ (ql s.dir (zi s.name) f.xs):=z7 hf.rises;have hi1:zk s.ino (ql s.dir (zi s.name) f.xs)=true:=by rw[zM hs.has];exact hi
 have hg1:zf s.ino (ql s.dir (zi s.name) f.xs)=zf s.ino f.xs:=by rw[jI hs.has,if_neg hne]
 have hc1:∀ m,JX m (ql s.dir (zi s.name) f.xs)+(if s.ino=m then 1 else 0)=JX m f.xs:=fun m=>by
  have hc:=Q0 (m:=m) (F:=zi s.name) hf.rises hs.has;have hw:J3 m (zf s.dir f.xs)=J3 m (qv (zf s.dir f.xs) (zi s.name (zf s.dir f.xs).es))+if s.ino=m then 1 else 0:=X9 (m:=m) (i:=s.ino) (x:=zf s.dir f.xs) (hf.es (zf s.dir f.xs) hd.2.1) hs.there;omega
 have hlk:=hf.links (zf s.ino f.xs) hx.2.1;rw[hx.2.2]at hlk;have hci:=hc1 s.ino;rw[if_pos rfl]at hci;have hz:∀ m,J3 m (zf s.ino f.xs)=0:=fun m=>by unfold J3;rw[he];rfl
 unfold zp;by_cases hl:(zf s.ino f.xs).links-1=0
 ·rw[if_pos hl];have hc0:JX s.ino (ql s.dir (zi s.name) f.xs)=0:=by omega
  have hcnt:∀ m,JX m (qc s.ino (ql s.dir (zi s.name) f.xs))=JX m (ql s.dir (zi s.name) f.xs):=fun m=>by
   have:=ziG (m:=m) hR1 hi1;rw[hg1,hz]at this;omega
  have hmem:∀ {z:zl},z∈qc s.ino (ql s.dir (zi s.name) f.xs)->(z=qv (zf s.dir f.xs) (zi s.name (zf s.dir f.xs).es)∨(z∈f.xs/\z.ino≠s.dir))/\z.ino≠s.ino:=fun {z} hz=>by
   obtain ⟨hz,hzi⟩:=Y7.1 hz;exact ⟨(qy hs.has).1 hz,hzi⟩
  have hin:∀ {z:zl},z∈qc s.ino (ql s.dir (zi s.name) f.xs)->z∈ql s.dir (zi s.name) f.xs:=fun {z} hz=>(Y7.1 hz).1;refine ⟨Hu hR1,fun x hx'=>?_,fun x hx'=>?_,fun x hx'=>?_,fun x hx' hk2=>?_,fun x hx' e hee=>?_,fun x hx'=>?_,?_,?_,?_⟩
  ·rcases hmem hx' with ⟨rfl | ⟨h,_⟩,_⟩
   ·exact hf.ino (zf s.dir f.xs) hd.2.1
   ·exact hf.ino _ h
  ·rcases hmem hx' with ⟨rfl | ⟨h,_⟩,_⟩
   ·exact hf.kind (zf s.dir f.xs) hd.2.1
   ·exact hf.kind _ h
  ·rcases hmem hx' with ⟨rfl | ⟨h,_⟩,_⟩
   ·exact J4 (hf.es (zf s.dir f.xs) hd.2.1)
   ·exact hf.es _ h
  ·rcases hmem hx' with ⟨rfl | ⟨h,_⟩,_⟩
   ·exact absurd hs.kind hk2
   ·exact hf.file _ h hk2
  ·show zk e.ino (qc _ _)=true;rw[YT,zM hs.has];have h1:e.ino≠s.ino:=Zs hc0 x (hin hx') e hee;rw[Wj h1];show zk e.ino f.xs=true;rcases hmem hx' with ⟨rfl | ⟨h,_⟩,_⟩
   ·exact hf.led (zf s.dir f.xs) hd.2.1 e (qE hee).1
   ·exact hf.led _ h e hee
  ·show x.links=((JX x.ino (qc _ _):Nat):Int);rw[hcnt];obtain ⟨h1,h2⟩:=hmem hx';have h3:=hc1 x.ino;rw[if_neg fun e=>h2 e.symm]at h3;have h4:x.links=(JX x.ino f.xs:Int):=by
    rcases h1 with rfl | ⟨h,_⟩
    ·exact hf.links (zf s.dir f.xs) hd.2.1
    ·exact hf.links _ h
   omega
  ·show zk 1 (qc _ _)=true;rw[YT,zM hs.has,hf.root,Wj fun e=>hr e.symm];rfl
  ·show (zf 1 (qc _ _)).kind=2;rw[Zx,if_neg fun e=>hr e.symm,jI hs.has];split
   ·exact hs.kind
   ·exact hf.base
  ·show JX 1 (qc _ _)=0;rw[hcnt];have:=hc1 1;have:=hf.bare;omega
 ·rw[if_neg hl];have hmem:∀ {z:zl},z∈qp { zf s.ino f.xs with links:=(zf s.ino f.xs).links-1 } (ql s.dir (zi s.name) f.xs)->z = { zf s.ino f.xs with links:=(zf s.ino f.xs).links-1 }∨z=qv (zf s.dir f.xs) (zi s.name (zf s.dir f.xs).es)∨(z∈f.xs/\z.ino≠s.dir/\z.ino≠s.ino):=fun {z} hz=>by
   rcases qw.1 hz with rfl | ⟨hz,hzi⟩
   ·exact .inl rfl
   ·have hzi:z.ino≠(zf s.ino f.xs).ino:=hzi;rw[hx.2.2]at hzi;rcases (qy hs.has).1 hz with rfl | ⟨hz,hzd⟩
    ·exact .inr (.inl rfl)
    ·exact .inr (.inr ⟨hz,hzd,hzi⟩)
  have hhas:∀ m,zk m (qp { zf s.ino f.xs with links:=(zf s.ino f.xs).links-1 } (ql s.dir (zi s.name) f.xs))=zk m f.xs:=fun m=>by
   rw[qT,zM hs.has];show (decide ((zf s.ino f.xs).ino=m)||_)=_;rw[hx.2.2];by_cases h:s.ino=m
   ·rw[←h,hi];simp
   ·simp[h]
  have hcnt:∀ m,JX m (qp { zf s.ino f.xs with links:=(zf s.ino f.xs).links-1 } (ql s.dir (zi s.name) f.xs))=JX m (ql s.dir (zi s.name) f.xs):=fun m=>by
   have h:=U1 (m:=m) (x:={ zf s.ino f.xs with links:=(zf s.ino f.xs).links-1 }) hR1 hi1 hx.2.2;rw[hg1]at h;have e:J3 m { zf s.ino f.xs with links:=(zf s.ino f.xs).links-1 }=J3 m (zf s.ino f.xs):=rfl;omega
  refine ⟨z7 hR1,fun x hx'=>?_,fun x hx'=>?_,fun x hx'=>?_,fun x hx' hk2=>?_,fun x hx' e hee=>?_,fun x hx'=>?_,by rw[hhas];exact hf.root,?_,?_⟩
  ·rcases hmem hx' with rfl | rfl | ⟨h,_⟩
   ·exact hf.ino (zf s.ino f.xs) hx.2.1
   ·exact hf.ino (zf s.dir f.xs) hd.2.1
   ·exact hf.ino _ h
  ·rcases hmem hx' with rfl | rfl | ⟨h,_⟩
   ·exact hf.kind (zf s.ino f.xs) hx.2.1
   ·exact hf.kind (zf s.dir f.xs) hd.2.1
   ·exact hf.kind _ h
  ·rcases hmem hx' with rfl | rfl | ⟨h,_⟩
   ·exact hf.es (zf s.ino f.xs) hx.2.1
   ·exact J4 (hf.es (zf s.dir f.xs) hd.2.1)
   ·exact hf.es _ h
  ·rcases hmem hx' with rfl | rfl | ⟨h,_⟩
   ·exact he
   ·exact absurd hs.kind hk2
   ·exact hf.file _ h hk2
  ·rw[hhas];rcases hmem hx' with rfl | rfl | ⟨h,_⟩
   ·exact hf.led (zf s.ino f.xs) hx.2.1 e hee
   ·exact hf.led (zf s.dir f.xs) hd.2.1 e (qE hee).1
   ·exact hf.led _ h e hee
  ·rw[hcnt];rcases hmem hx' with rfl | rfl | ⟨h,_,hzi⟩
   ·show (zf s.ino f.xs).links-1=((JX (zf s.ino f.xs).ino (ql s.dir (zi s.name) f.xs):Nat):Int);rw[hx.2.2];omega
   ·have h3:=hc1 (zf s.dir f.xs).ino;have h4:=hf.links (zf s.dir f.xs) hd.2.1;rw[if_neg (by rw[hd.2.2];exact fun e=>hne e.symm)]at h3;show (zf s.dir f.xs).links=((JX (zf s.dir f.xs).ino (ql s.dir (zi s.name) f.xs):Nat):Int);omega
   ·have h3:=hc1 x.ino;rw[if_neg fun e=>hzi e.symm]at h3;have h4:=hf.links _ h;omega
  ·show (zf 1 (qp _ _)).kind=2;rw[qD,if_neg (show ¬(zf s.ino f.xs).ino=1 by rw[hx.2.2];exact hr),jI hs.has];split
   ·exact hs.kind
   ·exact hf.base
  ·rw[hcnt];have:=hc1 1;have:=hf.bare;omega
end
section
theorem zar (hf:FsI f) {ys:List zl} (hR:zZ ys) (hall:∀ z∈ys,∃ y∈f.xs,z.ino=y.ino/\z.kind=y.kind/\z.links=y.links/\Jw z.es/\(z.kind≠2->z.es = [])/\∀ e∈z.es,zk e.ino f.xs=true)
  (hhas:∀ m,zk m ys=zk m f.xs) (hcnt:∀ m,JX m ys=JX m f.xs):FsI { f with xs:=ys }:=by
 refine ⟨hR,fun x hx=>?_,fun x hx=>?_,fun x hx=>?_,fun x hx hk=>?_,fun x hx e he=>?_,fun x hx=>?_,by rw[hhas];exact hf.root,?_,by rw[hcnt];exact hf.bare⟩
 ·obtain ⟨y,hy,e1,_⟩:=hall x hx;rw[e1];exact hf.ino y hy
 ·obtain ⟨y,hy,_,e2,_⟩:=hall x hx;rw[e2];exact hf.kind y hy
 ·obtain ⟨y,hy,_,_,_,e4,_⟩:=hall x hx;exact e4
 ·obtain ⟨y,hy,_,_,_,_,e5,_⟩:=hall x hx;exact e5 hk
 ·obtain ⟨y,hy,_,_,_,_,_,e6⟩:=hall x hx;rw[hhas];exact e6 e he
 ·obtain ⟨y,hy,e1,_,e3,_⟩:=hall x hx;rw[hcnt,e3,e1];exact hf.links y hy
 ·have h1:zk 1 ys=true:=by rw[hhas];exact hf.root
  obtain ⟨y,hy,e1,e2,_⟩:=hall _ (zj h1).2.1;rw[(zj h1).2.2]at e1;have e7:=(zlG hf.rises).1 hy;rw[←e1,(zj hf.root).1]at e7;simp only[Option.some.injEq]at e7;show (zf 1 ys).kind=2;rw[e2,←e7];exact hf.base
theorem vS (hf:FsI f) {a b:zH} (ha:zu f a) (hb:jY f b):FsI (jx f a b):=by
 have hda:=zj ha.has;have hdb:=zj hb.has;have hai:=zu.ino hf ha;obtain ⟨g1,hg1⟩:∃ g1,ql a.dir (zi a.name) f.xs=g1:=⟨_,rfl⟩;obtain ⟨g2,hg2⟩:∃ g2,ql b.dir (zU b.name a.ino) g1=g2:=⟨_,rfl⟩;have hR1:zZ g1:=by rw[←hg1];exact z7 hf.rises
 have hR2:zZ g2:=by rw[←hg2];exact z7 hR1
 have hh1:∀ m,zk m g1=zk m f.xs:=fun m=>by rw[←hg1];exact zM ha.has
 have hb1:zk b.dir g1=true:=by rw[hh1];exact hb.has
 have hh2:∀ m,zk m g2=zk m f.xs:=fun m=>by rw[←hg2,zM hb1];exact hh1 m
 have hgb:zf b.dir g1=if a.dir=b.dir then qv (zf a.dir f.xs) (zi a.name (zf a.dir f.xs).es) else zf b.dir f.xs:=by rw[←hg1,jI ha.has]
 have hmem1:∀ {z:zl},z∈g1->z=qv (zf a.dir f.xs) (zi a.name (zf a.dir f.xs).es)∨(z∈f.xs/\z.ino≠a.dir):=fun {z} hz=>by rw[←hg1]at hz;exact (qy ha.has).1 hz
 have hmem2:∀ {z:zl},z∈g2->z=qv (zf b.dir g1) (zU b.name a.ino (zf b.dir g1).es)∨(z∈g1/\z.ino≠b.dir):=fun {z} hz=>by rw[←hg2]at hz;exact (qy hb1).1 hz
 have hal1:∀ z∈g1,∃ y∈f.xs,z.ino=y.ino/\z.kind=y.kind/\z.links=y.links/\Jw z.es/\(z.kind≠2->z.es = [])/\∀ e∈z.es,zk e.ino f.xs=true:=fun z hz=>by
  rcases hmem1 hz with rfl | ⟨h,_⟩
  ·exact ⟨_,hda.2.1,rfl,rfl,rfl,J4 (hf.es _ hda.2.1),fun hk=>absurd ha.kind hk,fun e he=>hf.led _ hda.2.1 e (qE he).1⟩
  ·exact ⟨_,h,rfl,rfl,rfl,hf.es _ h,hf.file _ h,hf.led _ h⟩
 have hal2:∀ z∈g2,∃ y∈f.xs,z.ino=y.ino/\z.kind=y.kind/\z.links=y.links/\Jw z.es/\(z.kind≠2->z.es = [])/\∀ e∈z.es,zk e.ino f.xs=true:=fun z hz=>by
  rcases hmem2 hz with rfl | ⟨h,_⟩
  ·obtain ⟨y,hy,e1,e2,e3,e4,e5,e6⟩:=hal1 _ (zj hb1).2.1;refine ⟨y,hy,e1,e2,e3,VE e4,fun hk=>?_,fun e he=>?_⟩
   ·have hk':(zf b.dir g1).kind≠2:=hk;have:(zf b.dir g1).kind=2:=by
     rw[hgb];split
     ·exact ha.kind
     ·exact hb.kind
    exact absurd this hk'
   ·rcases J8 he with rfl | he
    ·exact hai
    ·exact e6 e he
  ·exact hal1 z h
 have hfree:Yb b.name (zf b.dir g1).es=false:=by
  rw[hgb];split
  ·rename_i hab;show Yb b.name (zi a.name (zf a.dir f.xs).es)=false;rw[Ok];intro h;have h1:=Yw h;have h2:=(qE (zS h1).2).1;have h3:Yb b.name (zf a.dir f.xs).es=true:=by
    unfold Yb JB;exact Ou.2 ⟨_,h2,by simp⟩
   have:=hb.free;rw[←hab,h3]at this;cases this
  ·exact hb.free
 have hc1:∀ m,JX m g1+(if a.ino=m then 1 else 0)=JX m f.xs:=fun m=>by
  have hc:=Q0 (m:=m) (F:=zi a.name) hf.rises ha.has;have hw:J3 m (zf a.dir f.xs)=J3 m (qv (zf a.dir f.xs) (zi a.name (zf a.dir f.xs).es))+if a.ino=m then 1 else 0:=X9 (m:=m) (i:=a.ino) (x:=zf a.dir f.xs) (hf.es _ hda.2.1) ha.there;rw[hg1]at hc;omega
 have hc2:∀ m,JX m g2=JX m f.xs:=fun m=>by
  have hc:=Q0 (m:=m) (F:=zU b.name a.ino) hR1 hb1;obtain ⟨_,_,_,_,_,e4,_⟩:=hal1 _ (zj hb1).2.1;have hw:J3 m (qv (zf b.dir g1) (zU b.name a.ino (zf b.dir g1).es))=J3 m (zf b.dir g1)+if a.ino=m then 1 else 0:=ZX (m:=m) (i:=a.ino) (x:=zf b.dir g1) e4 hfree;have:=hc1 m;rw[hg2]at hc;omega
 have key:FsI { f with xs:=g2 }:=zar hf hR2 hal2 hh2 hc2;unfold jx;rw[hg1,hg2];show FsI (if (zf a.ino g2).kind=2 then _ else _);split
 ·have hia:zk a.ino g2=true:=by rw[hh2];exact hai
  have hx:=zj hia;refine zar hf (z7 hR2) (fun z hz=>?_) (fun m=>?_) (fun m=>?_)
  ·rcases qw.1 hz with rfl | ⟨hz,_⟩
   ·exact hal2 (zf a.ino g2) hx.2.1
   ·exact hal2 z hz
  ·rw[qT];show (decide ((zf a.ino g2).ino=m)||_)=_;rw[hx.2.2,hh2];by_cases h:a.ino=m
   ·rw[←h,hai];simp
   ·simp[h]
  ·have h:=U1 (m:=m) (x:={ zf a.ino g2 with parent:=b.dir }) hR2 hia hx.2.2;have e:J3 m { zf a.ino g2 with parent:=b.dir }=J3 m (zf a.ino g2):=rfl;have:=hc2 m;omega
 ·exact key
theorem zkC {f:FsV} (hf:FsI f):∀ (ns:List Lz) (s:zH),(s.ino≠0->zk s.ino f.xs=true)->(atW f.xs ns s).2=0->ns≠[] ->
  zk (atW f.xs ns s).1.dir f.xs=true/\(zf (atW f.xs ns s).1.dir f.xs).kind=2/\(atW f.xs ns s).1.ino=zK (atW f.xs ns s).1.name (zf (atW f.xs ns s).1.dir f.xs).es/\(atW f.xs ns s).1.name∈ns
 | [],s,_,_,h=>absurd rfl h
 | n :: r,s,hs,h0,_=>by
  unfold atW at h0 ⊢;by_cases h1:s.ino=0
  ·rw[if_pos h1]at h0;cases h0
  rw[if_neg h1]at h0 ⊢;by_cases h2:(zf s.ino f.xs).kind≠2
  ·rw[if_pos h2]at h0;cases h0
  rw[if_neg h2]at h0 ⊢;have h2:(zf s.ino f.xs).kind=2:=Ww.1 h2;have hg:=zj (hs h1);have hnx:zK n (zf s.ino f.xs).es≠0->zk (zK n (zf s.ino f.xs).es) f.xs=true:=fun hne=>by
   have hh:Yb n (zf s.ino f.xs).es=true:=by
    unfold Yb;rw[qh];cases hq:qA zO.name n (zf s.ino f.xs).es with
    | some e=>rfl
    | none=>unfold zK at hne;rw[hq]at hne;exact absurd rfl hne
   exact hf.led _ hg.2.1 _ (zS (Yw hh)).2
  cases r with
  | nil =>
   unfold atW;rw[hg.2.2];exact ⟨hs h1,h2,rfl,Wi⟩
  | cons m r =>
   obtain ⟨i1,i2,i3,i4⟩:=zkC hf (m :: r) ⟨(zf s.ino f.xs).ino,n,zK n (zf s.ino f.xs).es⟩ hnx h0 (by simp);exact ⟨i1,i2,i3,Wl _ i4⟩
theorem vR {f:FsV} (hf:FsI f):∀ (ns:List Lz) (s:zH),(s.ino≠0->zk s.ino f.xs=true)->(atW f.xs ns s).1.ino≠0->zk (atW f.xs ns s).1.ino f.xs=true
 | [],s,hs,h=>hs h
 | n :: r,s,hs,h=>by
  unfold atW at h ⊢;by_cases h1:s.ino=0
  ·rw[if_pos h1]at h;exact absurd rfl h
  rw[if_neg h1]at h ⊢;by_cases h2:(zf s.ino f.xs).kind≠2
  ·rw[if_pos h2]at h;exact absurd rfl h
  rw[if_neg h2]at h ⊢;have hg:=zj (hs h1);refine vR hf r _ (fun hne=>?_) h;have hne:zK n (zf s.ino f.xs).es≠0:=hne;have hh:Yb n (zf s.ino f.xs).es=true:=by
   unfold Yb;rw[qh];cases hq:qA zO.name n (zf s.ino f.xs).es with
   | some e=>rfl
   | none=>unfold zK at hne;rw[hq]at hne;exact absurd rfl hne
  exact hf.led _ hg.2.1 _ (zS (Yw hh)).2
end
section
structure Uh (w:qN):Prop where
 fs:FsI w.fs
 kept:qL Ji zW.slot w.kept
 pool:zZ w.pool
 apart:∀ x∈w.pool,zk x.ino w.fs.xs=false/\x.ino<w.fs.next
theorem XE (hf:FsI f) {n:Int} (h:zk n f.xs=true):n≠0:=fun e=>by
 have:=(hf.ino _ (zj h).2.1).1;rw[(zj h).2.2]at this;omega
theorem X8 (hf:FsI f) {d:Int} (hd:zk d f.xs=true) {n:Lz} (h:Yb n (zf d f.xs).es=true):zk (zK n (zf d f.xs).es) f.xs=true:=
 hf.led _ (zj hd).2.1 _ (zS (Yw h)).2
theorem zea (hf:FsI f) {p:Lz} (hp:qm p=true) (h:(atV f p).2=0) :
  zk (atV f p).1.dir f.xs=true/\(zf (atV f p).1.dir f.xs).kind=2/\(atV f p).1.ino=zK (atV f p).1.name (zf (atV f p).1.dir f.xs).es/\(atV f p).1.name∈zn p:=by
 unfold qm at hp;simp only[Wp,Ab,Oc]at hp;unfold atV at h ⊢;rw[if_pos hp.1]at h ⊢;exact zkC hf (zn p) ⟨0,[],1⟩ (fun _=>hf.root) h hp.2
theorem jB (hf:FsI f) {p:Lz} (hp:qm p=true) (h:(isV f p true).2.2=0):zu f (isV f p true).1/\(isV f p true).2.1=zf (isV f p true).1.ino f.xs:=by
 unfold isV at h ⊢;simp only at h ⊢;by_cases h0:(atV f p).2≠0
 ·rw[if_pos h0]at h;exact absurd h h0
 rw[if_neg h0]at h;have h0:(atV f p).2=0:=Ww.1 h0;obtain ⟨a1,a2,a3,_⟩:=zea hf hp h0;refine ⟨⟨a1,a2,?_⟩,trivial⟩;have hh:zk (atV f p).1.ino f.xs=true:=by
  cases hq:zk (atV f p).1.ino f.xs with
  | true=>rfl
  | false=>rw[hq]at h;simp at h
 have he:Yb (atV f p).1.name (zf (atV f p).1.dir f.xs).es=true:=by
  unfold Yb;rw[qh];cases hq:qA zO.name (atV f p).1.name (zf (atV f p).1.dir f.xs).es with
  | some e=>rfl
  | none =>
   unfold zK at a3;rw[hq]at a3;exact absurd a3 (XE hf hh)
 rw[Yw he,←a3]
theorem JZ (hf:FsI f) {p:Lz} (hp:qm p=true) (h:(isV f p false).2.2=0):jY f (isV f p false).1:=by
 unfold isV at h ⊢;simp only at h ⊢;by_cases h0:(atV f p).2≠0
 ·rw[if_pos h0]at h;exact absurd h h0
 rw[if_neg h0]at h;have h0:(atV f p).2=0:=Ww.1 h0;obtain ⟨a1,a2,a3,_⟩:=zea hf hp h0;refine ⟨a1,a2,?_⟩;have hh:zk (atV f p).1.ino f.xs=false:=by
  cases hq:zk (atV f p).1.ino f.xs with
  | false=>rfl
  | true=>rw[hq]at h;simp at h
 rw[Ok];intro he;have:=X8 hf a1 he;rw[←a3,hh]at this;cases this
theorem YV {o:OpV} (h:kY o=true):qm o.a=true/\(zpj o.kind=true->qm o.b=true)/\1<=o.kind/\o.kind<=10:=by
 unfold kY at h;simp only[Wp,WU]at h;obtain ⟨⟨⟨⟨⟨⟨h1,h2⟩,h3⟩,h4⟩,h5⟩,h6⟩,h7⟩:=h;exact ⟨h3,fun hb=>by rw[if_pos hb]at h5;exact h5,h1,h2⟩
theorem zk1 (hw:Uh w) {g:FsV} (hg:FsI g) (hn:w.fs.next<=g.next) (hh:∀ x∈w.pool,zk x.ino g.xs=false):Uh { w with fs:=g }:=
 ⟨hg,hw.kept,hw.pool,fun x hx=>⟨hh x hx,by have:=(hw.apart x hx).2;show x.ino<g.next;omega⟩⟩
theorem Qw (f:FsV) (s:zH) (k:Int) (t:Lz):(zcL f s k t).1=f∨(zcL f s k t).1=zbW f s k t:=by
 unfold zcL;by_cases h1:may s.name=true
 ·rw[if_pos h1];by_cases h2:Zd f 1 (if k=1 then (t.length:Int) else 0)=true
  ·rw[if_pos h2];exact .inr rfl
  ·rw[if_neg h2];exact .inl rfl
 ·rw[if_neg h1];exact .inl rfl
theorem vi (hw:Uh w) {p:Lz} (hp:qm p=true) {k:Int} (hk:k=1∨k=2∨k=3) (t:Lz):Uh (Vc w p k t).1:=by
 unfold Vc;by_cases h:(isV w.fs p false).2.2≠0
 ·rw[if_pos h];exact hw
 rw[if_neg h];have hs:=JZ hw.fs hp (Ww.1 h);refine zk1 hw (zpz hw.fs hs k hk t) ?_ ?_
 ·rcases Qw w.fs (isV w.fs p false).1 k t with e | e
  ·rw[e];exact Ak _
  ·rw[e];show w.fs.next<=w.fs.next+1;omega
 ·intro x hx;obtain ⟨a1,a2⟩:=hw.apart x hx;rcases Qw w.fs (isV w.fs p false).1 k t with e | e
  ·rw[e];exact a1
  ·rw[e];show zk x.ino (qp _ _)=false;rw[qT,zM hs.has,a1];show (decide (w.fs.next=x.ino)||false)=false;rw[Wj (by omega)];rfl
theorem kh (hf:FsI f) {p:Lz} (hp:qm p=true) (h:(jh f p).2=0):zk (jh f p).1.ino f.xs=true/\(jh f p).1.kind=1/\(jh f p).1=zf (jh f p).1.ino f.xs:=by
 unfold jh at h ⊢;simp only at h ⊢;by_cases h0:(isV f p true).2.2≠0
 ·rw[if_pos h0]at h;exact absurd h h0
 rw[if_neg h0]at h;obtain ⟨h1,h2⟩:=jB hf hp (Ww.1 h0);have hi:=zu.ino hf h1;have hg:=zj hi;rw[h2]at h ⊢;rw[hg.2.2];refine ⟨hi,?_,rfl⟩;have hk:=hf.kind _ hg.2.1;by_cases h3:(zf (isV f p true).1.ino f.xs).kind=2
 ·rw[if_pos h3]at h;cases h
 rw[if_neg h3]at h;by_cases h4:(zf (isV f p true).1.ino f.xs).kind=3
 ·rw[if_pos h4]at h;cases h
 omega
theorem zgy {k:zW} (h:qL Ji zW.slot ks) (hn:NK k.slot ks=false):qL Ji zW.slot (qF k ks):=
 Z5 h fun y hy e=>by
  unfold NK JB at hn;rw[Ob]at hn;exact hn y hy (by simpa using e)
theorem Qy {s:zH} (h:zk s.dir f.xs=true) (hi:zk s.ino f.xs=true) (m:Int):zk m (zp f s).xs=if (zf s.ino f.xs).links-1=0 then (!decide (m=s.ino)&&zk m f.xs) else zk m f.xs:=by
 unfold zp;split
 ·show zk m (qc _ _)=_;rw[YT,zM h]
 ·show zk m (qp _ _)=_;rw[qT,zM h];show (decide ((zf s.ino f.xs).ino=m)||_)=_;rw[(zj hi).2.2];by_cases e:s.ino=m
  ·rw[←e,hi];simp
  ·simp[e]
theorem Yq (f:FsV) (s:zH):(zp f s).next=f.next:=by unfold zp;split<;>rfl
theorem zeV (hw:Uh w) {n:Int} {s:zH} (hs:zu w.fs s) (he:(zf s.ino w.fs.xs).es = []):Uh (JT w n s).1:=by
 unfold JT;cases hn:NK n w.kept with
 | true=>rw[if_pos rfl];exact hw
 | false =>
  rw[if_neg (by simp)];have hi:=zu.ino hw.fs hs;have hg:=zj hi;have hf:=UR hw.fs hs he;refine ⟨hf,zgy hw.kept hn,?_,fun x hx=>?_⟩
  ·show zZ (if _ then _ else _);split
   ·exact z7 hw.pool
   ·exact hw.pool
  ·show zk x.ino (zp w.fs s).xs=false/\x.ino<(zp w.fs s).next;rw[Qy hs.has hi,Yq];have hx:x∈(if (zf s.ino w.fs.xs).links=1 then qp { zf s.ino w.fs.xs with links:=0,parent:=0 } w.pool else w.pool):=hx;by_cases h1:(zf s.ino w.fs.xs).links=1
   ·rw[if_pos h1]at hx;rw[if_pos (by omega)];rcases qw.1 hx with rfl | ⟨hx,_⟩
    ·refine ⟨?_,?_⟩
     ·show (!decide ((zf s.ino w.fs.xs).ino=s.ino)&&_)=false;rw[hg.2.2];simp
     ·exact (hw.fs.ino _ hg.2.1).2
    ·obtain ⟨a1,a2⟩:=hw.apart x hx;rw[a1,O6];exact ⟨rfl,a2⟩
   ·rw[if_neg h1]at hx;rw[if_neg (by omega)];exact hw.apart x hx
theorem zrm (hw:Uh w) (o:OpV) (hk:o.kind<=7):Uh (doV w o).1:=by
 unfold doV;cases hm:kY o with
 | false=>exact hw
 | true =>
  obtain ⟨p1,p2,k1,_⟩:=YV hm;rw[if_neg (by simp)];by_cases h1:o.kind=1
  ·rw[if_pos h1];exact vi hw p1 (.inr (.inl rfl)) []
  rw[if_neg h1];by_cases h2:o.kind=2
  ·rw[if_pos h2];unfold Vk;split
   ·exact hw
   ·exact vi hw (p2 (by rw[h2];rfl)) (.inl rfl) _
  rw[if_neg h2];by_cases h3:o.kind=3
  ·rw[if_pos h3];have pb:=p2 (by rw[h3];rfl);unfold Qj;split
   ·exact hw
   ·split
    ·exact hw
    ·rename_i hfb;have hfb:=kh hw.fs pb (Ww.1 hfb);split
     ·exact hw
     ·split
      ·exact hw
      ·rename_i hkd;split
       ·exact hw
       ·rename_i hda;have hkd:=Ww.1 hkd;have hda:=Ww.1 hda;unfold JS at hkd ⊢;cases hn:NK o.slot w.kept with
        | true=>rw[hn]at hkd;simp at hkd
        | false =>
         rw[if_neg (by simp)];unfold kO at hda ⊢;by_cases hr:Zd w.fs 0 (((jh w.fs o.a).1.data.length:Int)-(zf (jh w.fs o.b).1.ino w.fs.xs).data.length)=true
         ·rw[if_pos hr];have hfi:=zmz hw.fs hfb.1 (jh w.fs o.a).1.data;refine ⟨hfi,zgy hw.kept hn,hw.pool,fun x hx=>⟨?_,(hw.apart x hx).2⟩⟩;show zk x.ino (qp _ _)=false;rw[qT,(hw.apart x hx).1];show (decide ((zf (jh w.fs o.b).1.ino w.fs.xs).ino=x.ino)||false)=false;rw[(zj hfb.1).2.2,A3,Oc];intro e;have:=(hw.apart x hx).1;rw[←e,hfb.1]at this;cases this
         ·rw[if_neg hr]at hda;cases hda
  rw[if_neg h3];by_cases h4:o.kind=4
  ·rw[if_pos h4];exact vi hw p1 (.inr (.inr rfl)) _
  rw[if_neg h4];by_cases h5:o.kind=5
  ·rw[if_pos h5];have pb:=p2 (by rw[h5];rfl);unfold Vw;simp only;split
   ·exact hw
   ·rename_i ha;obtain ⟨t1,t2⟩:=jB hw.fs p1 (Ww.1 ha);split
    ·exact hw
    ·rename_i hkd;split
     ·exact hw
     ·rename_i hb;have hfree:=JZ hw.fs pb (Ww.1 hb);have hi:=zu.ino hw.fs t1;rw[t2]at hkd;have e:(isV w.fs o.a true).2.1.ino=(isV w.fs o.a true).1.ino:=by rw[t2,(zj hi).2.2]
      rw[e];have hfi:=zmN hw.fs hfree hi hkd;refine zk1 hw hfi (Ak _) fun x hx=>?_;show zk x.ino (qp _ _)=false;rw[qT,zM hfree.has,(hw.apart x hx).1];show (decide ((zf (isV w.fs o.a true).1.ino w.fs.xs).ino=x.ino)||false)=false;rw[(zj hi).2.2,A3,Oc];intro e2;have:=(hw.apart x hx).1;rw[←e2,hi]at this;cases this
  rw[if_neg h5];by_cases h6:o.kind=6
  ·rw[if_pos h6];have pb:=p2 (by rw[h6];rfl);unfold JN;split
   ·exact hw
   ·rename_i ha;split
    ·exact hw
    ·rename_i hb;obtain ⟨t1,t2⟩:=jB hw.fs p1 (Ww.1 ha);have hfree:=JZ hw.fs pb (Ww.1 hb);have hmv:=vS hw.fs t1 hfree;refine zk1 hw hmv ?_ fun x hx=>?_
     ·unfold jx;simp only;split<;>exact Ak _
     ·have hi:=zu.ino hw.fs t1;have hb1:zk (isV w.fs o.b false).1.dir (ql (isV w.fs o.a true).1.dir (zi (isV w.fs o.a true).1.name) w.fs.xs)=true:=by rw[zM t1.has];exact hfree.has
      have h2:∀ m,zk m (ql (isV w.fs o.b false).1.dir (zU (isV w.fs o.b false).1.name (isV w.fs o.a true).1.ino) (ql (isV w.fs o.a true).1.dir (zi (isV w.fs o.a true).1.name) w.fs.xs))=zk m w.fs.xs:=fun m=>by rw[zM hb1,zM t1.has]
      unfold jx;simp only;split
      ·show zk x.ino (qp _ _)=false;have hi2:=h2 (isV w.fs o.a true).1.ino;rw[hi]at hi2;rw[qT,h2,(hw.apart x hx).1];show (decide ((zf (isV w.fs o.a true).1.ino _).ino=x.ino)||false)=false;rw[(zj hi2).2.2,A3,Oc];intro e2;have:=(hw.apart x hx).1;rw[←e2,hi]at this;cases this
      ·show zk x.ino (ql _ _ _)=false;rw[h2];exact (hw.apart x hx).1
  rw[if_neg h6];unfold qM;simp only;split
  ·exact hw
  ·rename_i ha;split
   ·exact hw
   ·rename_i hes;obtain ⟨t1,t2⟩:=jB hw.fs p1 (Ww.1 ha);rw[t2]at hes;exact zeV hw t1 (Ww.1 hes)
end
section
def kS (N:Nat) (x:zl):Prop:=x.es.length<=N/\x.data.length<=5000/\∀ e∈x.es,e.name.length<=300
structure xF (N:Nat) (w:qN):Prop where
 len:w.fs.xs.length<=N
 node:∀ x∈w.fs.xs,kS N x
 klen:w.kept.length<=N
 kdata:∀ k∈w.kept,k.data.length<=5000
 plen:w.pool.length<=N
 pnode:∀ x∈w.pool,kS N x
 next:w.fs.next<=1099511627776+N
 room:w.fs.maxI<=1073741824/\w.fs.maxB<=1073741824/\-1073741824<=w.fs.maxI/\-1073741824<=w.fs.maxB
theorem kS.up (h:kS N x):kS (N+1) x:=⟨OJ h.1,h.2⟩
theorem xF.up (h:xF N w):xF (N+1) w:=
 ⟨OJ h.len,fun x hx=>(h.node x hx).up,OJ h.klen,h.kdata,OJ h.plen,fun x hx=>(h.pnode x hx).up,by have:=h.next;omega,h.room⟩
theorem GQ {n:Lz} (h:may n=true):n.length<=255:=by
 unfold may at h;simp only[Wp,WU]at h;exact h.1.1.1.2
theorem zdw (n:Lz) (i:Int) (es:List zO):(zU n i es).length<=es.length+1:=by
 unfold zU;rw[Ux];have:=UV (key:=zO.name) n es;omega
theorem kH (h:kS N x) {n:Lz} (hn:n.length<=300) (i:Int):kS (N+1) (qv x (zU n i x.es)):=by
 refine ⟨?_,h.2.1,fun e he=>?_⟩
 ·have:=zdw n i x.es;have:=h.1;show (zU n i x.es).length<=N+1;omega
 ·rcases J8 he with rfl | he
  ·exact hn
  ·exact h.2.2 e he
theorem VV (h:kS N x) (n:Lz):kS N (qv x (zi n x.es)):=by
 refine ⟨?_,h.2.1,fun e he=>h.2.2 e (qE he).1⟩;have:=UV (key:=zO.name) n x.es;have:=h.1;show (Yt zO.name n x.es).length<=N;omega
theorem jV (h:∀ x∈xs,kS N x) {n:Int} (hh:zk n xs=true):kS N (zf n xs):=h _ (zj hh).2.1
theorem Vv (h:∀ x∈xs,kS N x) (hx:kS N x):∀ z∈qp x xs,kS N z:=fun z hz=>by
 rcases qw.1 hz with rfl | ⟨hz,_⟩
 ·exact hx
 ·exact h z hz
theorem Jo (hR:zZ xs) (hh:zk x.ino xs=true):(qp x xs).length=xs.length:=by rw[←yy hR hh];simp
theorem jP {F:List zO->List zO} (hR:zZ xs) (hh:zk n xs=true):(ql n F xs).length=xs.length:=by
 unfold ql;refine Jo hR ?_;show zk (zf n xs).ino xs=true;rw[(zj hh).2.2];exact hh
theorem zkG (hf:FsI f) {p:Lz} (hp:qm p=true) (h:(atV f p).2=0):(atV f p).1.name.length<=300:=by
 have h1:=(zea hf hp h).2.2.2;unfold qm jE at hp;simp only[Wp]at hp;have:=GQ (Wt.1 hp.1.2 _ h1);omega
theorem VC {p:Lz} {b:Bool} (h:(isV f p b).2.2=0):(atV f p).2=0:=by
 unfold isV at h;simp only at h;by_cases h0:(atV f p).2≠0
 ·rw[if_pos h0]at h;exact h
 ·exact Ww.1 h0
theorem zlv (hw:Uh w) (hb:xF N w) {p:Lz} (hp:qm p=true) {k:Int} {t:Lz} (ht:t.length<=5000):xF (N+1) (Vc w p k t).1:=by
 unfold Vc;by_cases h:(isV w.fs p false).2.2≠0
 ·rw[if_pos h];exact hb.up
 rw[if_neg h];have h:=Ww.1 h;have hs:=JZ hw.fs hp h;unfold zcL;by_cases h1:may (isV w.fs p false).1.name=true
 ·rw[if_pos h1];by_cases h2:Zd w.fs 1 (if k=1 then (t.length:Int) else 0)=true
  ·rw[if_pos h2];have hl:=GQ h1;refine ⟨?_,?_,by have:=hb.klen;show w.kept.length<=N+1;omega,hb.kdata,by have:=hb.plen;show w.pool.length<=N+1;omega,fun x hx=>(hb.pnode x hx).up,?_,hb.room⟩
   ·show (qp _ _).length<=N+1;refine WM zdI ?_;rw[jP hw.fs.rises hs.has];have:=hb.len;omega
   ·refine Vv (fun z hz=>?_) ⟨Wd _,ht,fun e he=>by cases he⟩;rcases (qy hs.has).1 hz with rfl | ⟨hz,_⟩
    ·exact kH (jV hb.node hs.has) (by omega) _
    ·exact (hb.node z hz).up
   ·show w.fs.next+1<=_;have:=hb.next;omega
  ·rw[if_neg h2];exact hb.up
 ·rw[if_neg h1];exact hb.up
theorem fsB (hb:xF N w) {g:FsV} (h1:g.xs.length<=N+1) (h2:∀ x∈g.xs,kS (N+1) x) (h3:g.next=w.fs.next) (h4:g.maxI=w.fs.maxI/\g.maxB=w.fs.maxB):xF (N+1) { w with fs:=g }:=
 ⟨h1,h2,OJ hb.klen,hb.kdata,OJ hb.plen,fun x hx=>(hb.pnode x hx).up,by show g.next<=_;rw[h3];have:=hb.next;omega,by show g.maxI<=_/\g.maxB<=_/\_<=g.maxI/\_<=g.maxB;rw[h4.1,h4.2];exact hb.room⟩
theorem MC (k:zW) (ks:List zW):(qF k ks).length=ks.length+1:=Ux k ks
theorem zla (hf:FsI f) (h1:f.xs.length<=N) (h2:∀ x∈f.xs,kS N x) {s:zH} (hs:zu f s):(zp f s).xs.length<=N/\(∀ x∈(zp f s).xs,kS N x)/\(zp f s).next=f.next/\(zp f s).maxI=f.maxI/\(zp f s).maxB=f.maxB:=by
 have hi:=zu.ino hf hs;have hd:∀ z∈ql s.dir (zi s.name) f.xs,kS N z:=fun z hz=>by
  rcases (qy hs.has).1 hz with rfl | ⟨hz,_⟩
  ·exact VV (jV h2 hs.has) _
  ·exact h2 z hz
 have hl:=jP (F:=zi s.name) hf.rises hs.has;unfold zp;split
 ·refine ⟨?_,fun x hx=>hd x (Y7.1 hx).1,rfl,rfl,rfl⟩;show (qc _ _).length<=N;exact WM ZR (by rw[hl];exact h1)
 ·refine ⟨?_,Vv hd (jV h2 hi),rfl,rfl,rfl⟩;show (qp _ _).length<=N;rw[Jo (show zZ (ql s.dir (zi s.name) f.xs) from z7 hf.rises) ?_,hl]
  ·exact h1
  ·show zk (zf s.ino f.xs).ino (ql _ _ _)=true;rw[(zj hi).2.2,zM hs.has];exact hi
theorem doB (hw:Uh w) (hb:xF N w) (o:OpV) (hd:o.d.length<=5000) (hk:o.kind<=7):xF (N+1) (doV w o).1:=by
 unfold doV;cases hm:kY o with
 | false=>exact hb.up
 | true =>
  obtain ⟨p1,p2,k1,_⟩:=YV hm;rw[if_neg (by simp)];by_cases h1:o.kind=1
  ·rw[if_pos h1];exact zlv hw hb p1 (by simp)
  rw[if_neg h1];by_cases h2:o.kind=2
  ·rw[if_pos h2];unfold Vk;split
   ·exact hb.up
   ·rename_i hfa;have hfa:=kh hw.fs p1 (Ww.1 hfa);refine zlv hw hb (p2 (by rw[h2];rfl)) ?_;rw[hfa.2.2];exact (jV hb.node hfa.1).2.1
  rw[if_neg h2];by_cases h3:o.kind=3
  ·rw[if_pos h3];have pb:=p2 (by rw[h3];rfl);unfold Qj;split
   ·exact hb.up
   ·rename_i hfa;have hfa:=kh hw.fs p1 (Ww.1 hfa);split
    ·exact hb.up
    ·rename_i hfb;have hfb:=kh hw.fs pb (Ww.1 hfb);split
     ·exact hb.up
     ·split
      ·exact hb.up
      ·rename_i hkd;split
       ·exact hb.up
       ·rename_i hda;have hkd:=Ww.1 hkd;have hda:=Ww.1 hda;unfold JS at hkd ⊢;cases hn:NK o.slot w.kept with
        | true=>rw[hn]at hkd;simp at hkd
        | false =>
         rw[if_neg (by simp)];unfold kO at hda ⊢;by_cases hr:Zd w.fs 0 (((jh w.fs o.a).1.data.length:Int)-(zf (jh w.fs o.b).1.ino w.fs.xs).data.length)=true
         ·rw[if_pos hr];have hg:=zj hfb.1;refine ⟨?_,?_,?_,fun k hk=>?_,OJ hb.plen,fun x hx=>(hb.pnode x hx).up,by have:=hb.next;show w.fs.next<=_;omega,hb.room⟩
          ·show (qp _ _).length<=N+1;rw[Jo hw.fs.rises (by show zk (zf _ _).ino _=true;rw[hg.2.2];exact hfb.1)];exact OJ hb.len
          ·refine Vv (fun z hz=>(hb.node z hz).up) ?_;have h7:=(jV hb.node hfb.1).up;refine ⟨h7.1,?_,h7.2.2⟩;show (jh w.fs o.a).1.data.length<=5000;rw[hfa.2.2];exact (jV hb.node hfa.1).2.1
          ·show (qF _ _).length<=N+1;rw[MC];have:=hb.klen;omega
          ·rcases Qx.1 hk with rfl | hk
           ·exact (jV hb.node hfb.1).2.1
           ·exact hb.kdata k hk
         ·rw[if_neg hr]at hda;cases hda
  rw[if_neg h3];by_cases h4:o.kind=4
  ·rw[if_pos h4];exact zlv hw hb p1 hd
  rw[if_neg h4];by_cases h5:o.kind=5
  ·rw[if_pos h5];have pb:=p2 (by rw[h5];rfl);unfold Vw;simp only;split
   ·exact hb.up
   ·rename_i ha;obtain ⟨t1,t2⟩:=jB hw.fs p1 (Ww.1 ha);split
    ·exact hb.up
    ·split
     ·exact hb.up
     ·rename_i hb2;have hb2:=Ww.1 hb2;have hfree:=JZ hw.fs pb hb2;have hi:=zu.ino hw.fs t1;have e:(isV w.fs o.a true).2.1.ino=(isV w.fs o.a true).1.ino:=by rw[t2,(zj hi).2.2]
      rw[e];have hln:=zkG hw.fs pb (VC hb2);refine fsB hb ?_ ?_ rfl ⟨rfl,rfl⟩
      ·show (qp _ _).length<=N+1;rw[Jo (show zZ (ql (isV w.fs o.b false).1.dir (zU (isV w.fs o.b false).1.name (isV w.fs o.a true).1.ino) w.fs.xs) from z7 hw.fs.rises) (by show zk (zf _ _).ino _=true;rw[(zj hi).2.2,zM hfree.has];exact hi),jP hw.fs.rises hfree.has];exact OJ hb.len
      ·refine Vv (fun z hz=>?_) (jV hb.node hi).up;rcases (qy hfree.has).1 hz with rfl | ⟨hz,_⟩
       ·exact kH (jV hb.node hfree.has) hln _
       ·exact (hb.node z hz).up
  rw[if_neg h5];by_cases h6:o.kind=6
  ·rw[if_pos h6];have pb:=p2 (by rw[h6];rfl);unfold JN;split
   ·exact hb.up
   ·rename_i ha;split
    ·exact hb.up
    ·rename_i hb2;have hb2:=Ww.1 hb2;obtain ⟨t1,t2⟩:=jB hw.fs p1 (Ww.1 ha);have hfree:=JZ hw.fs pb hb2;have hi:=zu.ino hw.fs t1;have hln:=zkG hw.fs pb (VC hb2);obtain ⟨g1,hg1⟩:∃ g1,ql (isV w.fs o.a true).1.dir (zi (isV w.fs o.a true).1.name) w.fs.xs=g1:=⟨_,rfl⟩;obtain ⟨g2,hg2⟩:∃ g2,ql (isV w.fs o.b false).1.dir (zU (isV w.fs o.b false).1.name (isV w.fs o.a true).1.ino) g1=g2:=⟨_,rfl⟩;have hR1:zZ g1:=by rw[←hg1];exact z7 hw.fs.rises
     have hb1:zk (isV w.fs o.b false).1.dir g1=true:=by rw[←hg1,zM t1.has];exact hfree.has
     have hn1:∀ z∈g1,kS N z:=fun z hz=>by
      rw[←hg1]at hz;rcases (qy t1.has).1 hz with rfl | ⟨hz,_⟩
      ·exact VV (jV hb.node t1.has) _
      ·exact hb.node z hz
     have hn2:∀ z∈g2,kS (N+1) z:=fun z hz=>by
      rw[←hg2]at hz;rcases (qy hb1).1 hz with rfl | ⟨hz,_⟩
      ·exact kH (jV hn1 hb1) hln _
      ·exact (hn1 z hz).up
     have hl2:g2.length=w.fs.xs.length:=by rw[←hg2,jP hR1 hb1,←hg1,jP hw.fs.rises t1.has]
     have hi2:zk (isV w.fs o.a true).1.ino g2=true:=by rw[←hg2,zM hb1,←hg1,zM t1.has];exact hi
     have hR2:zZ g2:=by rw[←hg2];exact z7 hR1
     unfold jx;rw[hg1,hg2];simp only;split
     ·refine fsB hb ?_ (Vv hn2 (jV hn2 hi2)) rfl ⟨rfl,rfl⟩;show (qp _ _).length<=N+1;rw[Jo hR2 (by show zk (zf _ _).ino _=true;rw[(zj hi2).2.2];exact hi2),hl2];exact OJ hb.len
     ·refine fsB hb ?_ hn2 rfl ⟨rfl,rfl⟩;show g2.length<=N+1;rw[hl2];exact OJ hb.len
  rw[if_neg h6];unfold qM;simp only;split
  ·exact hb.up
  ·rename_i ha;split
   ·exact hb.up
   ·obtain ⟨t1,t2⟩:=jB hw.fs p1 (Ww.1 ha);have hi:=zu.ino hw.fs t1;unfold JT;split
    ·exact hb.up
    ·obtain ⟨u1,u2,u3,u4,u5⟩:=zla hw.fs hb.len hb.node t1;refine ⟨OJ u1,fun x hx=>(u2 x hx).up,?_,fun k hk=>?_,?_,fun x hx=>?_,?_,?_⟩
     ·show (qF _ _).length<=N+1;rw[MC];have:=hb.klen;omega
     ·rcases Qx.1 hk with rfl | hk
      ·exact Wd _
      ·exact hb.kdata k hk
     ·show (if _ then _ else _:List zl).length<=N+1;split
      ·exact WM zdI (by have:=hb.plen;omega)
      ·exact OJ hb.plen
     ·have hx:x∈(if (zf (isV w.fs o.a true).1.ino w.fs.xs).links=1 then qp { zf (isV w.fs o.a true).1.ino w.fs.xs with links:=0,parent:=0 } w.pool else w.pool):=hx;split at hx
      ·exact Vv (x:={ zf (isV w.fs o.a true).1.ino w.fs.xs with links:=0,parent:=0 }) (fun z hz=>(hb.pnode z hz).up) (show kS (N+1) _ from (jV hb.node hi).up) x hx
      ·exact (hb.pnode x hx).up
     ·show (zp _ _).next<=_;rw[u3];have:=hb.next;omega
     ·show (zp _ _).maxI<=_/\(zp _ _).maxB<=_/\_<=(zp _ _).maxI/\_<=(zp _ _).maxB;rw[u4,u5];exact hb.room
end
section
open CA CB
open Go.RowKit
section
variable {G:zr}
end
end
section
open CA CB
open Go.RowKit
abbrev X4 (s:zH):List C:=[.sc (.int .i64 s.dir),.str s.name,.sc (.int .i64 s.ino)]
theorem FsS.es (h:FsS f) {n:Int} (hh:zk n f.xs=true):(zf n f.xs).es.length<=10000:=(h.node _ (zj hh).2.1).1
theorem M8 {xs:List Lz} (h:k<xs.length):(qg xs)[k]?=some [.str xs[k]]:=by simp[Wv,Wa h]
theorem Nl (f:FsV) (hf:FsI f) (hs:FsS f) (p:Lz) (hp:p.length<=1000000):Fun Tryz.prog G0 257 [.agg (fsC f),.str p] (.tup [.agg (X4 (atV f p).1),.sc (.int .i64 (atV f p).2)]) 0:=by
 have hpl:=N4 p (by omega);have hlen:=hs.len;have hnl:(zn p).length<=1000000:=by have:=qJ p;omega
 cases hpp:jE p with
 | false =>
  have e:atV f p=(jb,9):=by unfold atV;rw[hpp];rfl
  unfold Yv at hpl;rw[hpp]at hpl;refine fon Tryz.func257 ?_;dsimp only[Tryz.f257];push_cast;refine cl hpl ?_;push_cast;exact dn (by push_cast [ze,zd,CLe,zg,e,jb])
 | true =>
  have e:atV f p=atW f.xs (zn p) ⟨0,[],1⟩:=by unfold atV;rw[hpp];rfl
  unfold Yv at hpl;rw[hpp,if_pos rfl]at hpl;generalize zn p=ns at hpl hnl e;have hsl:(qg ns).length=ns.length:=We ..;refine fon Tryz.func257 ?_;dsimp only[Tryz.f257];push_cast;refine cl hpl ?_;push_cast;refine loop (fun x:Nat×zH=>⟨[(1,.str p),(2,.ptr 0 0),(4,.ptr 1 0),(8,.ptr 2 0),(24,.own 0 9 1 (qg ns)),(25,.sc (.int .i64 (ns.length:Nat))),(26,.sc (.int .i64 x.1))],[fsC f,[.sc (.int .i64 0),.str [],.sc (.int .i64 0)],X4 x.2],1,0⟩)
   (fun x=>x.1<=ns.length/\atW f.xs ns ⟨0,[],1⟩=atW f.xs (ns.drop x.1) x.2/\(x.2.ino≠0->zk x.2.ino f.xs=true)) (fun x=>ns.length-x.1) (0,⟨0,[],1⟩) ⟨Wd _,rfl,fun _=>hf.root⟩ ?_ ?_
  ·exact wks [.inl 0] (by push_cast [ze,zd,CLe,zg,hsl])
  rintro ⟨k,s⟩ ⟨hk,hat,hin⟩;simp only at hk hat hin ⊢;by_cases hlt:k<ns.length
  ·have gs:=M8 hlt;have hdr:ns.drop k=ns[k] :: ns.drop (k+1):=Of hlt;obtain ⟨nm,hnm⟩:∃ nm,ns[k]=nm:=⟨_,rfl⟩;rw[hnm]at gs hdr;have hg:=je (G:=G0) f s.ino (by omega) hf.rises;cases hh:zk s.ino f.xs with
   | false =>
    have h0:s.ino=0:=OO fun hne=>by rw[hin hne]at hh;cases hh
    have hr:atV f p=(jb,1):=by rw[e,hat,hdr];unfold atW;rw[if_pos h0]
    rw[hh]at hg;push_cast [hlt,gs]
    repeat refine an ?_
    refine cl hg ?_;push_cast;exact dn (by push_cast [ze,zd,CLe,zg,hr,jb])
   | true =>
    have hn0:s.ino≠0:=XE hf hh;have hgg:=zj hh;rw[hh]at hg;by_cases hk2:(zf s.ino f.xs).kind=2
    ·have hfd:=MI (G:=G0) (zf s.ino f.xs).es nm (by have:=hs.es hh;omega) (hf.es _ hgg.2.1);have hnx:atW f.xs ns ⟨0,[],1⟩=atW f.xs (ns.drop (k+1)) ⟨(zf s.ino f.xs).ino,nm,zK nm (zf s.ino f.xs).es⟩:=by
      rw[hat,hdr]
      conv=>lhs;unfold atW
      rw[if_neg hn0,if_neg (by simp[hk2])]
     have hin2:zK nm (zf s.ino f.xs).es≠0->zk (zK nm (zf s.ino f.xs).es) f.xs=true:=fun hne=>by
      refine X8 hf hh ?_;unfold Yb;rw[qh];cases hq:qA zO.name nm (zf s.ino f.xs).es with
      | some e=>rfl
      | none=>unfold zK at hne;rw[hq]at hne;exact absurd rfl hne
     push_cast [hlt,gs]
     repeat refine an ?_
     refine cl hg ?_;push_cast [hk2];refine cl hfd ?_;push_cast
     repeat refine an ?_
     exact ⟨(k+1,⟨(zf s.ino f.xs).ino,nm,zK nm (zf s.ino f.xs).es⟩),⟨hlt,hnx,hin2⟩,by simp only;omega,wks [.inl 0]⟩
    ·have hr:atV f p=(jb,3):=by rw[e,hat,hdr];unfold atW;rw[if_neg hn0,if_pos hk2]
     push_cast [hlt,gs]
     repeat refine an ?_
     refine cl hg ?_;push_cast [hk2];exact dn (by push_cast [ze,zd,CLe,zg,hr,jb])
  ·have hr:atV f p=(s,0):=by rw[e,hat,OG (by omega)];unfold atW;rfl
   push_cast [hlt];exact dn (by push_cast [ze,zd,CLe,zg,hr])
end
section
open CA CB
open Go.RowKit
abbrev zrY (f:FsV):Prop:=0<=f.next/\f.next<=4000000000000000000
theorem vw (hf:FsI f):f.xs≠[]:=fun h=>by have:=hf.root;rw[h]at this;cases this
theorem ZC (hf:FsI f) {n:Int} (hh:zk n f.xs=true):Jw (zf n f.xs).es:=hf.es _ (zj hh).2.1
theorem Fun.argsLe {G:zr} {f:FuncId} {args':List C} {r:C} {n:Nat} (h:Fun P G f args r n) (ha:∀ R vs,zy R zI args' vs->zy R zI args vs):Fun P G f args' r n:=
 ⟨h.1,fun R vs hg hv=>h.2 R vs hg (ha R vs hv)⟩
theorem zj5 {R:Env} {L:Loc} {v:Value} (h:Rep R L (.sc (.slice none 0 0)) v):Rep R L (.sl k []) v:=by
 rw[zq]at h;subst h;unfold Rep;exact ⟨none,0,rfl,Wb _,Wd _,.inl rfl⟩
end
section
open CA CB
open Go.RowKit
theorem zc9 {g:zl->Nat} {n:Nat}:∀ {xs:List zl},(∀ x∈xs,g x<=n)->Ns g xs<=xs.length*n
 | [],_=>by simp[Ns]
 | x :: r,h=>by
  have ih:=zc9 (g:=g) (n:=n) (xs:=r) fun y hy=>h y (Wl _ hy);have hx:=h x Wi;unfold Ns at ih ⊢;simp only[WC,OS,Wr];rw[AQ];omega
theorem zh3 (hf:FsI f) (hs:FsS f) {n:Int} (hh:zk n f.xs=true):0<=(zf n f.xs).links/\(zf n f.xs).links<=100000000:=by
 have h1:=hf.links _ (zj hh).2.1;have h2:=zc9 (g:=J3 (zf n f.xs).ino) (n:=10000) (xs:=f.xs) fun x hx=>WM (Ao _ _) (hs.node x hx).1;have h3:=hs.len;have h4:f.xs.length*10000<=10000*10000:=WO _ h3;unfold JX at h1;omega
theorem zbE (f:FsV) (hf:FsI f) (hs:FsS f) (s:zH) (hsp:zu f s) (hne:s.dir≠s.ino):Fun Tryz.prog G0 247 [.agg (fsC f),.agg (X4 s)] (.agg (fsC (zp f s))) 0:=by
 have hi:=zu.ino hf hsp;have hlen:=hs.len;have hg:=je (G:=G0) f s.dir (by omega) hf.rises;rw[hsp.has]at hg;have hes:=hs.es hsp.has;have hhe:JB zO.name s.name (zf s.dir f.xs).es=true:=by rw[qh,hsp.there];rfl
 have hw:=VZ (G:=G0) (zf s.dir f.xs).es s.name (by omega) (ZC hf hsp.has) hhe;have hd1:=UP (G:=G0) f (qv (zf s.dir f.xs) (zi s.name (zf s.dir f.xs).es)) (by omega) hf.rises;have hdl:(ql s.dir (zi s.name) f.xs).length=f.xs.length:=jP hf.rises hsp.has;have hR1:zZ (ql s.dir (zi s.name) f.xs):=z7 hf.rises;have hg2:=je (G:=G0) ⟨f.maxI,f.maxB,f.next,ql s.dir (zi s.name) f.xs⟩ s.ino (by simp only;omega) hR1;simp only at hg2;rw[zM hsp.has,hi,jI hsp.has,if_neg hne]at hg2;have hl:=zh3 hf hs hi;have hxi:=(zj hi).2.2;have hd2:=UP (G:=G0) ⟨f.maxI,f.maxB,f.next,ql s.dir (zi s.name) f.xs⟩ { zf s.ino f.xs with links:=(zf s.ino f.xs).links-1 } (by simp only;omega) hR1;have hd3:=zhJ (G:=G0) ⟨f.maxI,f.maxB,f.next,ql s.dir (zi s.name) f.xs⟩ s.ino (by simp only;omega) hR1 (by intro h;have h0:f.xs = []:=As.1 (by rw[←hdl];exact Wu List.length h);exact vw hf h0);have e0:zp f s=if (zf s.ino f.xs).links-1=0 then ⟨f.maxI,f.maxB,f.next,qc s.ino (ql s.dir (zi s.name) f.xs)⟩ else ⟨f.maxI,f.maxB,f.next,qp { zf s.ino f.xs with links:=(zf s.ino f.xs).links-1 } (ql s.dir (zi s.name) f.xs)⟩:=rfl;unfold ql at hg2 hd2 hd3 e0;by_cases hz:(zf s.ino f.xs).links-1=0
 ·rw[if_pos hz]at e0;have hz':=eq_true hz;rw[←hxi]at hd3;refine fon Tryz.func247 ?_;dsimp only[Tryz.f247];push_cast;refine cl hg ?_;push_cast;refine cl hw ?_;push_cast;refine cl hd1 ?_;push_cast;refine cl hg2 ?_;push_cast [hz']
  repeat refine an ?_
  refine cl hd3 ?_;push_cast;exact dn (by push_cast [ze,zd,CLe,zg,e0,hxi])
 ·rw[if_neg hz]at e0;have hz':=WH hz;refine fon Tryz.func247 ?_;dsimp only[Tryz.f247];push_cast;refine cl hg ?_;push_cast;refine cl hw ?_;push_cast;refine cl hd1 ?_;push_cast;refine cl hg2 ?_;push_cast [hz']
  repeat refine an ?_
  refine cl hd2 ?_;push_cast;exact dn (by push_cast [ze,zd,CLe,zg,e0])
end
section
open CA CB
open Go.RowKit
theorem zjY (f:FsV) (hf:FsI f) (hs:FsS f) (a b:zH) (ha:zu f a) (hb:jY f b) (hb0:b.ino=0):Fun Tryz.prog G0 245 [.agg (fsC f),.agg (X4 a),.agg (X4 b)] (.agg (fsC (jx f a b))) 0:=by
 have hai:=zu.ino hf ha;have hlen:=hs.len;have hhe:JB zO.name a.name (zf a.dir f.xs).es=true:=by rw[qh,ha.there];rfl
 have hga:=je (G:=G0) f a.dir (by omega) hf.rises;rw[ha.has]at hga;have hwa:=VZ (G:=G0) (zf a.dir f.xs).es a.name (by have:=hs.es ha.has;omega) (ZC hf ha.has) hhe;have hda:=UP (G:=G0) f (qv (zf a.dir f.xs) (zi a.name (zf a.dir f.xs).es)) (by omega) hf.rises;obtain ⟨g1,hg1⟩:∃ g1,ql a.dir (zi a.name) f.xs=g1:=⟨_,rfl⟩;obtain ⟨g2,hg2⟩:∃ g2,ql b.dir (zU b.name a.ino) g1=g2:=⟨_,rfl⟩;have hR1:zZ g1:=by rw[←hg1];exact z7 hf.rises
 have hR2:zZ g2:=by rw[←hg2];exact z7 hR1
 have hl1:g1.length=f.xs.length:=by rw[←hg1];exact jP hf.rises ha.has
 have hb1:zk b.dir g1=true:=by rw[←hg1,zM ha.has];exact hb.has
 have hl2:g2.length=f.xs.length:=by rw[←hg2,jP hR1 hb1,hl1]
 have hi2:zk a.ino g2=true:=by rw[←hg2,zM hb1,←hg1,zM ha.has];exact hai
 have hgb:=je (G:=G0) ⟨f.maxI,f.maxB,f.next,g1⟩ b.dir (by simp only;omega) hR1;simp only at hgb;rw[hb1]at hgb;have hres:Jw (zf b.dir g1).es/\(zf b.dir g1).es.length<=10000:=by
  rw[←hg1,jI ha.has];split
  ·refine ⟨J4 (ZC hf ha.has),?_⟩;show (Yt zO.name _ _).length<=10000;have:=UV (key:=zO.name) a.name (zf a.dir f.xs).es;have:=hs.es ha.has;omega
  ·exact ⟨ZC hf hb.has,hs.es hb.has⟩
 have hwb:=zdx (G:=G0) (zf b.dir g1).es b.name a.ino (by have:=hres.2;omega) hres.1;have hdb:=UP (G:=G0) ⟨f.maxI,f.maxB,f.next,g1⟩ (qv (zf b.dir g1) (zU b.name a.ino (zf b.dir g1).es)) (by simp only;omega) hR1;have hgx:=je (G:=G0) ⟨f.maxI,f.maxB,f.next,g2⟩ a.ino (by simp only;omega) hR2;simp only at hgx;rw[hi2]at hgx;have hxi:=(zj hi2).2.2;have e0:jx f a b=if (zf a.ino g2).kind=2 then ⟨f.maxI,f.maxB,f.next,qp { zf a.ino g2 with parent:=b.dir } g2⟩ else ⟨f.maxI,f.maxB,f.next,g2⟩:=by unfold jx;rw[hg1,hg2]
 have hdx:=fun x:zl=>UP (G:=G0) ⟨f.maxI,f.maxB,f.next,g2⟩ x (by simp only;omega) hR2;have hda':Fun Tryz.prog G0 271 [.agg (fsC f),.agg (Yf (qv (zf a.dir f.xs) (zi a.name (zf a.dir f.xs).es)))] (.agg [.sc (.int .i64 f.maxI),.sc (.int .i64 f.maxB),.sc (.int .i64 f.next),.own 0 64 6 (zx g1)]) 1:=by rw[←hg1];exact hda
 have hdb':Fun Tryz.prog G0 271 [.agg (fsC ⟨f.maxI,f.maxB,f.next,g1⟩),.agg (Yf (qv (zf b.dir g1) (zU b.name a.ino (zf b.dir g1).es)))] (.agg [.sc (.int .i64 f.maxI),.sc (.int .i64 f.maxB),.sc (.int .i64 f.next),.own 0 64 6 (zx g2)]) 1:=by rw[←hg2];exact hdb
 have hb0':=eq_true hb0;by_cases hk:(zf a.ino g2).kind=2
 ·rw[if_pos hk]at e0;have hk':=eq_true hk;have hd:=hdx { zf a.ino g2 with parent:=b.dir };refine fon Tryz.func245 ?_;dsimp only[Tryz.f245];push_cast [hb0'];refine cl hga ?_;push_cast;refine cl hwa ?_;push_cast;refine cl hda' ?_;push_cast;refine cl hgb ?_;push_cast;refine cl hwb ?_;push_cast;refine cl hdb' ?_;push_cast;refine cl hgx ?_;push_cast [hk'];refine cl hd ?_;push_cast;exact dn (by push_cast [ze,zd,CLe,zg,e0])
 ·rw[if_neg hk]at e0;have hk':=WH hk;have hsm:qp (zf a.ino g2) g2=g2:=Mb hR2 (by rw[hxi];exact (zj hi2).1);have hd:=hdx (zf a.ino g2);rw[hsm]at hd;refine fon Tryz.func245 ?_;dsimp only[Tryz.f245];push_cast [hb0'];refine cl hga ?_;push_cast;refine cl hwa ?_;push_cast;refine cl hda' ?_;push_cast;refine cl hgb ?_;push_cast;refine cl hwb ?_;push_cast;refine cl hdb' ?_;push_cast;refine cl hgx ?_;push_cast [hk'];refine cl hd ?_;push_cast;exact dn (by push_cast [ze,zd,CLe,zg,e0])
end
section
open Go.RowKit
section
variable {G:zr}
theorem H3 (rows:List (List C)) (hk:∀ r∈rows,r.length=4) (hs:jn rows) (hl:rows.length<=100000) :
  YH Tryz.prog G 280 [.sl 4 rows] [] 0 (zdG 4 rows):=by
 refine YH.bySlice (fun h=>?_) (fun h a cap hr=>?_)
 ·refine foX (fun i=>if i=1000000+25 then [true,true] else []) Tryz.func280 ?_;dsimp only[Tryz.f280];push_cast;refine ⟨h,Ze kw XU rfl rfl (by decide) rfl (qt hk) rfl (Wb _) (Wb _) (by omega) (by omega) (fun hc=>absurd hc ?_) (fun _ c hc hm=>?_)⟩
  ·have:=WG.2 h;omega
  ·push_cast;rw[Ot]at hc;refine ⟨_,_,_,⟨⟨rfl,.inl ⟨h,c,hc,hm,rfl,rfl⟩⟩,Wd _⟩,[],rfl,rfl,?_,by push_cast [ze,zd,CLe,zg]⟩;push_cast [ze,zd,CLe,zg];exact zT (zG hs)
 ·cases a with
  | none =>
   refine foX (fun i=>if i=1000000+25 then [true,true] else []) Tryz.func280 ?_;dsimp only[Tryz.f280];push_cast [hr,O3];exact ⟨_,_,_,⟨⟨rfl,.inr ⟨h,.inl ⟨rfl,rfl⟩⟩⟩,Wd _⟩,[],rfl,rfl,by push_cast [ze,zd,CLe,zg],by push_cast [ze,zd,CLe,zg]⟩
  | some a =>
   refine foX (fun i=>if i=1000000+25 then [true,true] else []) Tryz.func280 ?_;dsimp only[Tryz.f280];push_cast [hr,O4];have hx:C.xs? 4 [[]] (C.sc (.slice (some a) 0 cap))=some (0,[]):=by simp[C.xs?,hr]
   refine Ze kw XU hx rfl (by decide) rfl rfl rfl (Wb _) (Wb _) (by omega) (by omega) (fun _=>?_) (fun hc=>absurd hc (by omega));push_cast;exact ⟨_,_,_,⟨⟨rfl,.inr ⟨h,.inr ⟨rfl,rfl⟩⟩⟩,Wd _⟩,[],rfl,rfl,by (push_cast [ze,zd,CLe,zg];simp[spl,zg]),by push_cast [ze,zd,CLe,zg]⟩
theorem UA (rows:List (List C)) (x:List C) (i c e:Nat) (hk:∀ r∈rows,r.length=4) (hx:x.length=4) (hs:jn rows) (hsx:(x.all C.stayB)=true) (hl:rows.length<=100000) (hi:i<=rows.length) (hc:rows.length<=c) (hcm:c<=9223372036854775807) :
  YH Tryz.prog G 279 [.bs 0 0 4 rows.length c,.sc (.int .i64 i),.own 0 e 4 [x]] [qx 4 rows c] 1 (zqE 4 (c*4) (rows.take i++x :: rows.drop i)):=by
 refine foX (fun j=>if j=1000000+25 then [true,true] else if j=11 then [false,false,false,false,false,false,false,false,true] else if j=15 then [false,false,false,false,false,false,false,false,true] else []) Tryz.func279 ?_;dsimp only[Tryz.f279];push_cast;have hlen:(rows.take i++x :: rows.drop i).length=rows.length+1:=by simp;omega
 have hki:∀ r∈rows.take i++x :: rows.drop i,r.length=4:=fun r hr=>by
  rcases Wz.1 hr with hr | hr
  ·exact hk r (Wx hr)
  ·rcases WK.1 hr with rfl | hr
   ·exact hx
   ·exact hk r (WT hr)
 have hsi:jn (rows.take i++x :: rows.drop i):=fun r hr=>by
  rcases Wz.1 hr with hr | hr
  ·exact hs r (Wx hr)
  ·rcases WK.1 hr with rfl | hr
   ·exact hsx
   ·exact hs r (WT hr)
 have hbl:=JH hk hc;have hfl:=qt hk;have hxl:[x].flatten.length=1*4:=by simp[hx]
 have hpre:(qx 4 rows c).take rows.flatten.length=rows.flatten:=by unfold qx;rw[Bf]
 refine ⟨hc,⟨by omega,hi⟩,br (fun h=>?_) (fun h=>?_)⟩
 ·push_cast;refine Ze kw XU rfl rfl (by decide) rfl hxl rfl (by rw[hbl];omega) hc (by simp;omega) (by simp;omega) (fun h1=>?_) (fun h1 c' h2 h3=>?_)
  ·push_cast;have hi':i=rows.length:=WN h;refine ⟨_,_,_,⟨⟨rfl,c,by rw[hlen];exact h1,hcm,.inl ⟨rfl,rfl⟩⟩,Wb _⟩,[],rfl,rfl,?_,by push_cast [ze,zd,CLe,zg,hlen]⟩;push_cast [ze,zd,CLe,zg];have h6:rows.length*4+4<=c*4:=by have:rows.length+1<=c:=h1;omega
   refine JD hki hsi (by rw[hlen];exact h1) (by rw[Q3 (by rw[hbl,hx];exact h6),hbl]) ?_;rw[hlen,hi',Og,A6];unfold spl;rw[←hfl,hpre,OB (by simp[hx,hfl];omega)];simp
  ·push_cast;have hi':i=rows.length:=WN h;have h2':rows.length+1<=c':=h2;refine ⟨_,_,_,⟨⟨rfl,c',by rw[hlen];exact h2,h3,.inr ⟨rfl,rfl⟩⟩,OL rfl⟩,[],rfl,rfl,?_,by push_cast [ze,zd,CLe,zg,hlen]⟩;push_cast [ze,zd,CLe,zg];refine ⟨Xn hbl,JD hki hsi (by rw[hlen];exact h2) (by simp[hx,hbl];omega) ?_⟩;rw[hlen,hi',Og,A6,←hfl,hpre,OB (by simp[hx,hfl];omega)];simp
 ·have hne:i≠rows.length:=OK h;push_cast;refine ⟨⟨by omega,by omega⟩,br (fun h1=>?_) (fun h1=>?_)⟩
  ·have h1':(c:Int)<(rows.length:Int)+1:=WN h1;push_cast
   repeat refine an ?_
   refine znh kw znG XU rfl (by decide) rfl rfl (by rw[hbl];omega) (by omega) (by omega) (by omega) (by omega) (by omega) (fun c' B h2 h3 hBl hBt=>?_);have e1:((rows.length:Int)+1-(i:Int)).toNat=rows.length+1-i:=by omega
   rw[e1]at h2 ⊢;have e2:i+(rows.length+1-i)=rows.length+1:=by omega
   rw[e2]at h2 ⊢;push_cast
   repeat refine an ?_
   refine XI kw XU rfl rfl hxl (by rw[hBl];omega) (fun B1 hB1 hl1=>?_);rw[hBl]at hl1;push_cast
   repeat refine an ?_
   have hbp:=Xt (c:=c) hk hi;refine XI kw XU (km rfl (by rw[hbl];omega)) rfl (by rw[hbp,W6,hfl];omega) (by rw[hl1];omega) (fun B2 hB2 hl2=>?_);rw[hl1]at hl2;have hX:[x].flatten.take (min [x].length (rows.length+1-i)*4)=x:=by
    rw[OM,OA (by omega),Wg (by omega)];simp
   rw[hX]at hB1;rw[hbp,show min (rows.length-i) (rows.length-i)*4=(rows.length-i)*4 by omega,Wg (by rw[W6,hfl];omega),hB1]at hB2;push_cast;refine ⟨_,_,_,⟨⟨rfl,c',by rw[hlen];exact h2,h3,.inr ⟨rfl,rfl⟩⟩,OL rfl⟩,[],rfl,rfl,?_,by push_cast [ze,zd,CLe,zg,hlen]⟩;push_cast [ze,zd,CLe,zg];refine ⟨Xn hbl,JD hki hsi (by rw[hlen];exact h2) hl2 ?_⟩;rw[hlen,←Qp hk,hB2];have hg:=G6 (cs:=B) (L:=rows.flatten) (X:=x) (p:=i*4) (q:=(i+1)*4) (by omega) (by omega) (by
    rw[hBt,AV];unfold qx;rw[ON (by omega)]) (by omega)
   rw[hfl,hx]at hg;rw[←hg];congr 1;omega
  ·have h1':¬(c:Int)<(rows.length:Int)+1:=OK h1;push_cast
   repeat refine an ?_
   refine zmG (yh (P:=Tryz.prog) (tR:=4) Tryz.func297 (by kernel_rfl) (by kernel_rfl) (by kernel_rfl) (by kernel_rfl) kw XU rfl (Bh (by rw[hbl];omega)) (by simp) (by omega)) ?_;push_cast
   repeat refine an ?_
   have hbp:=Xt (c:=c) hk hi;refine XI kw XU (km rfl (by rw[hbl];omega)) rfl (by simp[hbl];omega) (by rw[hbl];omega) (fun B1 hB1 hl1=>?_);rw[hbl]at hl1;rw[BT,OA (by omega),show min (rows.length+1-i) (rows.length-i)*4=(rows.length-i)*4 by omega,hbp]at hB1;push_cast
   repeat refine an ?_
   refine XI kw XU rfl rfl hxl (by rw[hl1];omega) (fun B2 hB2 hl2=>?_);rw[hl1]at hl2;have hX:[x].flatten.take (min [x].length (rows.length+1-i)*4)=x:=by
    rw[OM,OA (by omega),Wg (by omega)];simp
   rw[hX,hB1]at hB2;push_cast;have hcc:rows.length+1<=c:=by omega
   refine ⟨_,_,_,⟨⟨rfl,c,by rw[hlen];exact hcc,hcm,.inl ⟨rfl,rfl⟩⟩,OL rfl⟩,[],rfl,rfl,?_,by push_cast [ze,zd,CLe,zg,hlen]⟩;push_cast [ze,zd,CLe,zg];refine JD hki hsi (by rw[hlen];exact hcc) hl2 ?_;rw[hlen,←Qp hk,hB2];have hg:=UD (cs:=qx 4 rows c) (L:=rows.flatten) (X:=x) (p:=i*4) (q:=(i+1)*4) (by omega) (by omega) hpre (by omega);rw[hfl,hx]at hg;rw[←hg];congr 1;omega
theorem vZ {e:Nat} (x:List C) (hx:x.length=4) (hsx:(x.all C.stayB)=true) :
  YH Tryz.prog G 279 [.sc (.slice none 0 0),.sc (.int .i64 0),.own 0 e 4 [x]] [] 1 (fun r bx' n=>n=0/\∃ c,1<=c/\c<=9223372036854775807/\r = .bs 0 0 4 1 c/\bx' = [qx 4 [x] c]):=by
 refine foX (fun j=>if j=1000000+25 then [true,true] else if j=11 then [false,false,false,false,false,false,false,false,true] else if j=15 then [false,false,false,false,false,false,false,false,true] else []) Tryz.func279 ?_;dsimp only[Tryz.f279];push_cast;refine No kw XU rfl rfl (by decide) rfl (by simp[hx]) (by simp) (by simp) (by simp) (fun c h1 h2=>?_);push_cast;refine ⟨_,_,_,⟨⟨rfl,c,h1,h2,rfl,rfl⟩,Wd _⟩,[],rfl,rfl,?_,by push_cast [ze,zd,CLe,zg]⟩;push_cast [ze,zd,CLe,zg];have:=zT (src:=[]) (n:=1) (zG (k:=4) (c:=c) (rows:=[x]) fun r hr=>by
  rw[WY.1 hr];exact hsx)
 unfold qx at this ⊢;simpa using this
end
end
section
open CA CB
open Go.RowKit
abbrev JE (k:zW):List C:=[.sc (.int .i64 k.slot),.sc (.int .i64 k.ino),.sc (.bool k.content),.str k.data]
abbrev zJ (ks:List zW):List (List C):=ks.map JE
theorem JG (ks:List zW) (i:Nat) (h:i<ks.length):(zJ ks)[i]?=some (JE ks[i]):=by simp[Wv,Wa h]
abbrev Nw (w:qN):List C:=[.sc (.int .i64 w.fs.maxI),.sc (.int .i64 w.fs.maxB),.sc (.int .i64 w.fs.next),.sl 6 (zx w.fs.xs),.sl 4 (zJ w.kept),.sl 6 (zx w.pool)]
abbrev Q7 (w:qN):C:=.agg (Nw w)
theorem zfS (a b:Int):Uu a b<0↔Ji.lt a b=true:=by
 show Uu a b<0↔decide (a<b)=true;unfold Uu;rw[WU];split
 ·simp;assumption
 ·split<;>omega
theorem zc4 (a b:Int):Uu a b=0↔a=b:=by
 unfold Uu;split
 ·constructor
  ·intro h;cases h
  ·intro h;omega
 ·split
  ·constructor
   ·intro h;cases h
   ·intro h;omega
  ·constructor
   ·intro _;omega
   ·intro _;rfl
section
variable {G:zr}
theorem zjH (k:zW):Fun Tryz.prog G 274 [.agg (JE k)] (.sc (.int .i64 k.slot)) 0:=by
 refine fon Tryz.func274 ?_;dsimp only[Tryz.f274];push_cast;exact dn
theorem uC (k:zW) (n:Int):Fun Tryz.prog G 294 [.agg (JE k),.sc (.int .i64 n),.row [.clo (.func 274) [] []]] (.sc (.int .i64 (Uu k.slot n))) 0:=by
 refine fon Tryz.func294 ?_;dsimp only[Tryz.f294];push_cast;refine cl (zjH k) ?_;push_cast;refine cl (vo k.slot n) ?_;push_cast;exact dn
theorem M3 (ks:List zW) (n:Int) (hl:ks.length<=100000) (hR:qL Ji zW.slot ks) :
  Fun Tryz.prog G 293 [.sl 4 (zJ ks),.sc (.int .i64 n),.clo (.func 294) [] [.row [.clo (.func 274) [] []]]] (.tup [.sc (.int .i64 (qr Ji zW.slot n ks:Nat)),.sc (.bool (JB zW.slot n ks))]) 0:=by
 refine fon Tryz.func293 ?_;dsimp only[Tryz.f293];push_cast;refine loop (fun p:Nat×Nat=>⟨[(0,.sl 4 (zJ ks)),(1,.sc (.int .i64 n)),(2,.clo (.func 294) [] [.row [.clo (.func 274) [] []]]),(8,.sc (.int .i64 (ks.length:Nat))),(9,.sc (.int .i64 p.1)),(10,.sc (.int .i64 p.2))],[],0,0⟩)
  (fun p=>p.1<=p.2/\p.2<=ks.length/\(∀ t (h:t<ks.length),t<p.1->(Ji).lt (zW.slot ks[t]) n=true)/\∀ t (h:t<ks.length),p.2<=t->(Ji).lt (zW.slot ks[t]) n=false) (fun p=>p.2-p.1) (0,ks.length) ⟨Wd _,Wb _,fun t _ h=>by (simp at h),fun t h h'=>by (dsimp only at h';omega)⟩ ?_ ?_
 ·exact wk (by push_cast [ze,zd,CLe,zg,We])
 ·rintro ⟨i,j⟩ ⟨h1,h2,h3,h4⟩;dsimp only at h1 h2 h3 h4 ⊢;by_cases h:i<j
  ·obtain ⟨m,hm⟩:∃ m,m=(i+j) / 2:=⟨_,rfl⟩;have hmi:((i:Int)+(j:Int)) / 2=(m:Int):=by omega
   have hml:m<ks.length:=by omega
   have hat:=JG ks m hml;have hlt:=(zfS ks[m].slot n);push_cast [h,hmi,hat]
   repeat refine an ?_
   refine cl ((uC ks[m] n)) ?_;push_cast;cases hc:(Ji).lt (zW.slot ks[m]) n with
   | true =>
    have hcv:(Uu ks[m].slot n<0)=True:=eq_true (hlt.mpr hc);push_cast [hcv]
    repeat refine an ?_
    refine ⟨(m+1,j),⟨by omega,h2,fun t ht hlt2=>?_,h4⟩,by dsimp only;omega,wk⟩;dsimp only at hlt2;rcases Wq t m with q | q
    ·exact (Ji).tr ((WQ.1 hR) t m ht hml q) hc
    ·have:t=m:=by omega
     subst this;exact hc
   | false =>
    have hcv:(Uu ks[m].slot n<0)=False:=WH (fun e=>by have h7:(Ji).lt (zW.slot ks[m]) n=true:=hlt.mp e;rw[hc]at h7;cases h7);push_cast [hcv]
    repeat refine an ?_
    refine ⟨(i,m),⟨by omega,by omega,h3,fun t ht hge=>?_⟩,by dsimp only;omega,wk⟩;dsimp only at hge;rcases Wq m t with q | q
    ·cases h9:(Ji).lt (zW.slot ks[t]) n with
     | false=>rfl
     | true=>have:=(Ji).tr ((WQ.1 hR) m t hml ht q) h9;rw[hc]at this;cases this
    ·have:t=m:=by omega
     subst this;exact hc
  ·have hij:i=j:=by omega
   subst hij;have hrk:=ZS (o:=Ji) (key:=zW.slot) n ks i h2 h3 h4;push_cast [h];refine br (fun hx=>?_) (fun hx=>?_)
   ·have hx:i<ks.length:=by simpa using hx
    have hat:=JG ks i hx;have hh:=yp n hR hrk hx;push_cast [hx,hat]
    repeat refine an ?_
    refine cl ((uC ks[i] n)) ?_;push_cast;have hcv:decide (Uu ks[i].slot n=0)=JB zW.slot n ks:=by
     rw[hh];exact A8.2 (zc4 ks[i].slot n)
    push_cast [hcv];exact dn (by push_cast [ze,zd,CLe,zg,hrk])
   ·have hx:¬i<ks.length:=by simpa using hx
    have hh:=Gm n hR (by omega);push_cast [hx];exact dn (by push_cast [ze,zd,CLe,zg,hrk,hh])
theorem vn (ks:List zW) (n:Int) (hl:ks.length<=100000) (hR:qL Ji zW.slot ks):Fun Tryz.prog G 273 [.sl 4 (zJ ks),.sc (.int .i64 n),.clo (.func 274) [] []] (.tup [.sc (.int .i64 (qr Ji zW.slot n ks:Nat)),.sc (.bool (JB zW.slot n ks))]) 0:=by
 refine fon Tryz.func273 ?_;dsimp only[Tryz.f273];push_cast;refine zo0 [.sl 4 (zJ ks),.sc (.int .i64 n),.clo (.func 294) [] [.row [.clo (.func 274) [] []]]] (M3 ks n hl hR) rfl ?_ ?_
 ·simp[XF,Qa,C.frz,C.frzL]
 push_cast;exact dn
def zen (n:Int) (ks:List zW):zW:=(qA zW.slot n ks).getD zl2
theorem zgP (w:qN) (n:Int) (hl:w.kept.length<=100000) (hR:qL Ji zW.slot w.kept):Fun Tryz.prog G 246 [Q7 w,.sc (.int .i64 n)] (.tup [.agg (JE (zen n w.kept)),.sc (.bool (NK n w.kept))]) 0:=by
 obtain ⟨_,_,h3,h4⟩:=Ue n hR;have h:=vn (G:=G) w.kept n hl hR;cases hh:JB zW.slot n w.kept with
 | false =>
  have hf:zen n w.kept=zl2:=by unfold zen;rw[(h4 hh).1];rfl
  have he:NK n w.kept=false:=hh;rw[hh]at h;refine fon Tryz.func246 ?_;dsimp only[Tryz.f246];push_cast;refine cl h ?_;push_cast;exact dn (by push_cast [ze,zd,CLe,zg,hf,he,zl2])
 | true =>
  obtain ⟨hlt,_,g2,_⟩:=h3 hh;have hf:zen n w.kept=w.kept[qr Ji zW.slot n w.kept]:=by unfold zen;rw[g2];rfl
  have he:NK n w.kept=true:=hh;have hat:=JG w.kept _ hlt;rw[hh]at h;refine fon Tryz.func246 ?_;dsimp only[Tryz.f246];push_cast;refine cl h ?_;push_cast [hat]
  repeat refine an ?_
  exact dn (by push_cast [ze,zd,CLe,zg,hf,he])
end
end
section
open Go.RowKit Go.ChangeMaps Go.ChangeShapes Go.WideShapes Go.Deep Go.Joins
section
variable {H:Type} {enc:TypeId×Value->H} {P:Program} {W:World}
theorem jZ.two {t:TypeId} {f1 f2:Field} {k1 k2:Nat} {Q1 Q2:List C->Prop} (hs:P.underlying t=some (.struct #[f1,f2])) (h1:jZ enc P W f1.type k1 Q1) (h2:jZ enc P W f2.type k2 Q2)
  (e1:f1.offset=0) (e2:P.cellsOf f1.type=k1) (e3:f2.offset=k1) (e4:P.cellsOf f2.type=k2) (e5:P.cellsOf t=k1+k2):jZ enc P W t (k1+k2) fun row=>∃ a b,row=a++b/\Q1 a/\Q2 b:=fun fuel cs x hx=>by
 obtain ⟨ys,n',hn',hy,hlen,hyl,hf⟩:=DataW.trod_struct hs hx;rw[e5]at hlen;have g1:=hf 0 f1 rfl;have g2:=hf 1 f2 rfl;have hy2:ys.length=2:=by simpa using hyl
 rw[e1,e2,AV,Wa (by omega)]at g1;rw[e3,e4,Wa (by omega)]at g2;obtain ⟨a,qa,la,la',ra⟩:=h1 _ _ _ g1;obtain ⟨b,qb,lb,lb',rb⟩:=h2 _ _ _ g2;refine ⟨a++b,⟨a,b,rfl,qa,qb⟩,by rw[Wk,la,lb],hlen,fun j c v h3 h4=>?_⟩;rcases Wq j k1 with hj | hj
 ·rw[Ws (by omega)]at h3;exact ra j c v h3 (by rw[Bn hj];exact h4)
 ·rw[WL (by omega),la]at h3;have hjl:=(Wc.1 h3).1;refine rb (j-k1) c v h3 ?_;rw[Bn (by omega),W3,show k1+(j-k1)=j by omega];exact h4
theorem zhX:jZ enc Tryz.prog W 105 4 fun row=>∃ o:zW,row=JE o/\o.data.length<=maxLen:=fun fuel cs x hx=>by
 obtain ⟨row,⟨hl,hq⟩,h1,h2,h3⟩:=jZ.struct (W:=W) (enc:=enc) (Qs:=fun j c=>match j with | 0=>∃ n,c = .sc (.int .i64 n)/\(Lit.int .i64 n).wf=true | 1=>∃ n,c = .sc (.int .i64 n)/\(Lit.int .i64 n).wf=true | 2=>∃ b,c = .sc (.bool b) | 3=>∃ l:Lz,c = .str l/\l.length<=maxLen | _=>True) Tryz.underlying105 (by kernel_rfl) (by kernel_rfl) (fun j f hj=>by
  match j,hj with
  | 0,hj=>cases hj;exact Opn.int Tryz.underlying3
  | 1,hj=>cases hj;exact Opn.int Tryz.underlying3
  | 2,hj=>cases hj;exact Opn.bool Tryz.underlying4
  | 3,hj=>cases hj;exact Opn.str Tryz.underlying9
  | j+4,hj=>simp at hj) fuel cs x hx
 match row,h1,hq,h3 with
 | [c0,c1,c2,c3],_,hq,h3 =>
  obtain ⟨a,rfl,_⟩:=hq 0 c0 rfl;obtain ⟨b,rfl,_⟩:=hq 1 c1 rfl;obtain ⟨c,rfl⟩:=hq 2 c2 rfl;obtain ⟨d,rfl,hd⟩:=hq 3 c3 rfl;exact ⟨_,⟨⟨a,b,c,d⟩,rfl,hd⟩,rfl,h2,h3⟩
theorem zeU:Opn enc Tryz.prog W 25 fun c=>∃ xs:List zW,c = .sl 4 (zJ xs)/\xs.length<=maxLen/\∀ x∈xs,x.data.length<=maxLen:=fun fuel cs x hx=>by
 obtain ⟨v,c,rfl,⟨rows,rfl,hl,hr⟩,h1,h2⟩:=Opn.slice (W:=W) (enc:=enc) Tryz.underlying25 (show Tryz.prog.cellsOf 105=4 by kernel_rfl) (by decide) zhX fuel cs x hx;obtain ⟨xs,rfl,hq⟩:=Gj hr;exact ⟨v,_,rfl,⟨xs,rfl,by simpa using hl,hq⟩,h1,h2⟩
theorem zfm:jZ enc Tryz.prog W 27 2 fun row=>∃ (ks:List zW) (pool:List zl),row = [.sl 4 (zJ ks),.sl 6 (zx pool)]/\ks.length<=maxLen/\pool.length<=maxLen:=fun fuel cs x hx=>by
 obtain ⟨row,⟨hl,hq⟩,h1,h2,h3⟩:=jZ.struct (W:=W) (enc:=enc) (Qs:=fun j c=>match j with | 0=>∃ xs:List zW,c = .sl 4 (zJ xs)/\xs.length<=maxLen/\∀ x∈xs,x.data.length<=maxLen | 1=>∃ xs:List zl,c = .sl 6 (zx xs)/\xs.length<=maxLen/\∀ x∈xs,zcP x | _=>True) Tryz.underlying27 (by kernel_rfl) (by kernel_rfl) (fun j f hj=>by
  match j,hj with
  | 0,hj=>cases hj;exact zeU
  | 1,hj=>cases hj;exact ur
  | j+2,hj=>simp at hj) fuel cs x hx
 match row,h1,hq,h3 with
 | [c0,c1],_,hq,h3 =>
  obtain ⟨a,rfl,ha,_⟩:=hq 0 c0 rfl;obtain ⟨b,rfl,hb,_⟩:=hq 1 c1 rfl;exact ⟨_,⟨a,b,rfl,ha,hb⟩,rfl,h2,h3⟩
theorem zdE:jZ enc Tryz.prog W 29 6 fun row=>∃ w:qN,row=Nw w/\w.fs.xs.length<=maxLen:=fun fuel cs x hx=>by
 obtain ⟨row,⟨a,b,rfl,⟨f,rfl,hf,_⟩,⟨ks,pool,rfl,_⟩⟩,h1,h2,h3⟩:=jZ.two (W:=W) (enc:=enc) Tryz.underlying29 zpU zfm rfl (by kernel_rfl) rfl (by kernel_rfl) (by kernel_rfl) fuel cs x hx;exact ⟨_,⟨⟨f,ks,pool⟩,rfl,hf⟩,h1,h2,h3⟩
end
end
section
open CA CB
open Go.RowKit
section
variable {G:zr}
theorem z6:∀ r∈zJ ks,r.length=4:=fun r hr=>by
 obtain ⟨x,_,rfl⟩:=WP.1 hr;rfl
theorem zt:jn (zJ ks):=fun r hr=>by
 obtain ⟨x,_,rfl⟩:=WP.1 hr;rfl
theorem zdj (w:qN) (k:zW) (hl:w.kept.length<=90000) (hR:qL Ji zW.slot w.kept) (hn:NK k.slot w.kept=false):Fun Tryz.prog G 252 [Q7 w,.agg (JE k)] (Q7 { w with kept:=qF k w.kept }) 0:=by
 obtain ⟨_,_,h3,h4⟩:=Ue (o:=Ji) k.slot hR;have hll:(zJ w.kept).length=w.kept.length:=We ..;have hat:=vn (G:=G) w.kept k.slot (by omega) hR;have hrl:=Zz (o:=Ji) (key:=zW.slot) k.slot w.kept;have hn':JB zW.slot k.slot w.kept=false:=hn;rw[hn']at hat;have hw:qF k w.kept=w.kept.take (qr Ji zW.slot k.slot w.kept)++k :: w.kept.drop (qr Ji zW.slot k.slot w.kept):=(h4 hn').2.2 k rfl;have hset:zJ (qF k w.kept)=(zJ w.kept).take (qr Ji zW.slot k.slot w.kept)++JE k :: (zJ w.kept).drop (qr Ji zW.slot k.slot w.kept):=by rw[hw];simp
 have hsl:(zJ (qF k w.kept)).length=(zJ w.kept).length+1:=by rw[hset];simp;omega
 refine foF (fun i=>if i=2 then QW [(0,.pure),(1,.pure),(2,.pure),(4,.pure),(5,.pure),(6,.pure),(3,.flt [3,4,5]),(7,.bar),(8,.pure),(9,.pure),(10,.bar)] else []) Tryz.func252 ?_;dsimp only[Tryz.f252];push_cast;refine cl hat ?_;push_cast;refine zlC [] (H3 (zJ w.kept) z6 zt (by omega)) (by decide) (by simp) (by push_cast) (by push_cast) (fun r bx' m hp=>?_);obtain ⟨rfl,⟨hne,c,h1,h2,rfl,rfl⟩ | ⟨he,⟨rfl,rfl⟩ | ⟨rfl,rfl⟩⟩⟩:=hp
 ·have hbl:=JH z6 h1;have hre:∀ fp fo,C.reL fp fo (qx 4 (zJ w.kept) c)=qx 4 (zJ w.kept) c:=fun fp fo=>zE (zG zt);have hpos:=WG.2 hne;have hre2:∀ fp fo c,C.reL fp fo (qx 4 (zJ (qF k w.kept)) c)=qx 4 (zJ (qF k w.kept)) c:=fun fp fo c=>zE (zG zt);push_cast [hre];refine jy [4] [0] (UA (e:=105) (zJ w.kept) (JE k) (qr Ji zW.slot k.slot w.kept) c z6 rfl zt rfl (by omega) (by omega) h1 h2) rfl (by decide) (by decide) (by simp) (by push_cast) (by push_cast [hre]) (fun r bx' m hp=>?_);rw[←hset]at hp;obtain ⟨rfl,c',g1,g2,⟨rfl,rfl⟩ | ⟨rfl,rfl⟩⟩:=hp
  ·push_cast [hre2,hre];exact ⟨[(4,105,4,zJ (qF k w.kept),c')],[],zB rfl (by omega) g1 g2 z6 zt,rfl,rfl,by push_cast [ze,zd,CLe,zg]⟩
  ·have hra:∀ fp fo,C.reL fp fo (List.replicate (c*4) .any)=List.replicate (c*4) .any:=fun fp fo=>zE (by simp[OE,C.stayB]);push_cast [hre2,hre,hra];exact ⟨[(5,105,4,zJ (qF k w.kept),c')],[],zB rfl (by omega) g1 g2 z6 zt,rfl,rfl,by push_cast [ze,zd,CLe,zg]⟩
 ·have he:w.kept = []:=by simpa using he
  have hr0:qr Ji zW.slot k.slot w.kept=0:=by rw[he];rfl
  have hs1:qF k w.kept = [k]:=by rw[he];rfl
  push_cast [hr0];refine jy [] [0] (vZ (e:=105) (JE k) rfl rfl) rfl (by decide) (by decide) (by simp) (by push_cast) (by push_cast) (fun r bx' m hp=>?_);obtain ⟨rfl,c,g1,g2,rfl,rfl⟩:=hp;have hre:∀ fp fo,C.reL fp fo (qx 4 [JE k] c)=qx 4 [JE k] c:=fun fp fo=>zE (zG (zt (ks:=[k])));push_cast [hre];exact ⟨[(3,105,4,zJ [k],c)],[],zB rfl (by omega) g1 g2 z6 zt,rfl,rfl,by push_cast [ze,zd,CLe,zg,hs1]⟩
 ·have he:w.kept = []:=by simpa using he
  have hr0:qr Ji zW.slot k.slot w.kept=0:=by rw[he];rfl
  have hs1:qF k w.kept = [k]:=by rw[he];rfl
  push_cast [hr0];refine jy [3] [0] (UA (e:=105) [] (JE k) 0 0 (fun r hr=>by cases hr) rfl (fun r hr=>by cases hr) rfl (by simp) (by simp) (by simp) (by simp)) rfl (by decide) (by decide) (by simp) (by push_cast) (by push_cast [qx]) (fun r bx' m hp=>?_);obtain ⟨rfl,c,g1,g2,hp⟩:=hp;have hre:∀ fp fo,C.reL fp fo (qx 4 [JE k] c)=qx 4 [JE k] c:=fun fp fo=>zE (zG (zt (ks:=[k])));rcases hp with ⟨rfl,rfl⟩ | ⟨rfl,rfl⟩
  ·push_cast [hre];exact ⟨[(3,105,4,zJ [k],c)],[],zB rfl (WI (AT _) g1) g1 g2 z6 zt,rfl,rfl,by push_cast [ze,zd,CLe,zg,hs1]⟩
  ·push_cast [hre];exact ⟨[(4,105,4,zJ [k],c)],[],zB rfl (WI (AT _) g1) g1 g2 z6 zt,rfl,rfl,by push_cast [ze,zd,CLe,zg,hs1]⟩
theorem xh (f:FsV) (hf:FsI f) (hs:FsS f) (p:Lz) (hp:p.length<=1000000):Fun Tryz.prog G0 243 [.agg (fsC f),.str p] (.tup [.agg (X4 (isV f p true).1),.agg (Yf (isV f p true).2.1),.sc (.int .i64 (isV f p true).2.2)]) 0:=by
 have h1:=Nl f hf hs p hp;have h2:=je (G:=G0) f (atV f p).1.ino (by have:=hs.len;omega) hf.rises;have e1:(isV f p true).1=(atV f p).1:=rfl;have e2:(isV f p true).2.1=zf (atV f p).1.ino f.xs:=rfl;by_cases h0:(atV f p).2=0
 ·have h0':=eq_true h0;cases hz:zk (atV f p).1.ino f.xs with
  | true =>
   have e3:(isV f p true).2.2=0:=by unfold isV;simp[h0,hz]
   rw[hz]at h2;refine fof (fun i=>if i=4 then QW [(0,.pure),(1,.pure),(2,.pure),(3,.flt [1,2]),(4,.flt [2]),(5,.pure)] else if i=6 then QW [(0,.pure),(1,.pure),(2,.flt [1]),(3,.flt []),(4,.pure)] else if i=7 then QW [(0,.pure),(1,.pure),(2,.flt [1]),(3,.flt []),(4,.pure)] else []) Tryz.func243 ?_;dsimp only[Tryz.f243];push_cast;refine cl h1 ?_;push_cast;refine cl h2 ?_;push_cast [h0'];exact dn (by push_cast [ze,zd,CLe,zg,e1,e2,e3])
  | false =>
   have e3:(isV f p true).2.2=1:=by unfold isV;simp[h0,hz]
   rw[hz]at h2;refine fof (fun i=>if i=4 then QW [(0,.pure),(1,.pure),(2,.pure),(3,.flt [1,2]),(4,.flt [2]),(5,.pure)] else if i=6 then QW [(0,.pure),(1,.pure),(2,.flt [1]),(3,.flt []),(4,.pure)] else if i=7 then QW [(0,.pure),(1,.pure),(2,.flt [1]),(3,.flt []),(4,.pure)] else []) Tryz.func243 ?_;dsimp only[Tryz.f243];push_cast;refine cl h1 ?_;push_cast;refine cl h2 ?_;push_cast [h0'];exact dn (by push_cast [ze,zd,CLe,zg,e1,e2,e3])
 ·have h0':=WH h0;have e3:(isV f p true).2.2=(atV f p).2:=by unfold isV;simp[h0]
  refine fof (fun i=>if i=4 then QW [(0,.pure),(1,.pure),(2,.pure),(3,.flt [1,2]),(4,.flt [2]),(5,.pure)] else if i=6 then QW [(0,.pure),(1,.pure),(2,.flt [1]),(3,.flt []),(4,.pure)] else if i=7 then QW [(0,.pure),(1,.pure),(2,.flt [1]),(3,.flt []),(4,.pure)] else []) Tryz.func243 ?_;dsimp only[Tryz.f243];push_cast;refine cl h1 ?_;push_cast;refine cl h2 ?_;push_cast [h0',ite_self];exact dn (by push_cast [ze,zd,CLe,zg,e1,e2,e3])
end
end
section
open CA CB
open Go.RowKit
section
variable {G:zr}
theorem zhb (k:zl):Fun Tryz.prog G 249 [.agg (Yf k)] (.sc (.int .i64 k.ino)) 0:=by
 refine fon Tryz.func249 ?_;dsimp only[Tryz.f249];push_cast;exact dn
theorem ut (k:zl) (n:Int):Fun Tryz.prog G 276 [.agg (Yf k),.sc (.int .i64 n),.row [.clo (.func 249) [] []]] (.sc (.int .i64 (Uu k.ino n))) 0:=by
 refine fon Tryz.func276 ?_;dsimp only[Tryz.f276];push_cast;refine cl (zhb k) ?_;push_cast;refine cl (vo k.ino n) ?_;push_cast;exact dn
theorem xt (ks:List zl) (n:Int) (hl:ks.length<=100000) (hR:qL Ji zl.ino ks) :
  Fun Tryz.prog G 180 [.sl 6 (zx ks),.sc (.int .i64 n),.clo (.func 276) [] [.row [.clo (.func 249) [] []]]] (.tup [.sc (.int .i64 (qr Ji zl.ino n ks:Nat)),.sc (.bool (JB zl.ino n ks))]) 0:=by
 refine fon Tryz.func180 ?_;dsimp only[Tryz.f180];push_cast;refine loop (fun p:Nat×Nat=>⟨[(0,.sl 6 (zx ks)),(1,.sc (.int .i64 n)),(2,.clo (.func 276) [] [.row [.clo (.func 249) [] []]]),(8,.sc (.int .i64 (ks.length:Nat))),(9,.sc (.int .i64 p.1)),(10,.sc (.int .i64 p.2))],[],0,0⟩)
  (fun p=>p.1<=p.2/\p.2<=ks.length/\(∀ t (h:t<ks.length),t<p.1->(Ji).lt (zl.ino ks[t]) n=true)/\∀ t (h:t<ks.length),p.2<=t->(Ji).lt (zl.ino ks[t]) n=false) (fun p=>p.2-p.1) (0,ks.length) ⟨Wd _,Wb _,fun t _ h=>by (simp at h),fun t h h'=>by (dsimp only at h';omega)⟩ ?_ ?_
 ·exact wk (by push_cast [ze,zd,CLe,zg,We])
 ·rintro ⟨i,j⟩ ⟨h1,h2,h3,h4⟩;dsimp only at h1 h2 h3 h4 ⊢;by_cases h:i<j
  ·obtain ⟨m,hm⟩:∃ m,m=(i+j) / 2:=⟨_,rfl⟩;have hmi:((i:Int)+(j:Int)) / 2=(m:Int):=by omega
   have hml:m<ks.length:=by omega
   have hat:=jt ks m hml;have hlt:=(zfS ks[m].ino n);push_cast [h,hmi,hat]
   repeat refine an ?_
   refine cl ((ut ks[m] n)) ?_;push_cast;cases hc:(Ji).lt (zl.ino ks[m]) n with
   | true =>
    have hcv:(Uu ks[m].ino n<0)=True:=eq_true (hlt.mpr hc);push_cast [hcv]
    repeat refine an ?_
    refine ⟨(m+1,j),⟨by omega,h2,fun t ht hlt2=>?_,h4⟩,by dsimp only;omega,wk⟩;dsimp only at hlt2;rcases Wq t m with q | q
    ·exact (Ji).tr ((WQ.1 hR) t m ht hml q) hc
    ·have:t=m:=by omega
     subst this;exact hc
   | false =>
    have hcv:(Uu ks[m].ino n<0)=False:=WH (fun e=>by have h7:(Ji).lt (zl.ino ks[m]) n=true:=hlt.mp e;rw[hc]at h7;cases h7);push_cast [hcv]
    repeat refine an ?_
    refine ⟨(i,m),⟨by omega,by omega,h3,fun t ht hge=>?_⟩,by dsimp only;omega,wk⟩;dsimp only at hge;rcases Wq m t with q | q
    ·cases h9:(Ji).lt (zl.ino ks[t]) n with
     | false=>rfl
     | true=>have:=(Ji).tr ((WQ.1 hR) m t hml ht q) h9;rw[hc]at this;cases this
    ·have:t=m:=by omega
     subst this;exact hc
  ·have hij:i=j:=by omega
   subst hij;have hrk:=ZS (o:=Ji) (key:=zl.ino) n ks i h2 h3 h4;push_cast [h];refine br (fun hx=>?_) (fun hx=>?_)
   ·have hx:i<ks.length:=by simpa using hx
    have hat:=jt ks i hx;have hh:=yp n hR hrk hx;push_cast [hx,hat]
    repeat refine an ?_
    refine cl ((ut ks[i] n)) ?_;push_cast;have hcv:decide (Uu ks[i].ino n=0)=JB zl.ino n ks:=by
     rw[hh];exact A8.2 (zc4 ks[i].ino n)
    push_cast [hcv];exact dn (by push_cast [ze,zd,CLe,zg,hrk])
   ·have hx:¬i<ks.length:=by simpa using hx
    have hh:=Gm n hR (by omega);push_cast [hx];exact dn (by push_cast [ze,zd,CLe,zg,hrk,hh])
theorem zk0 (ks:List zl) (n:Int) (hl:ks.length<=100000) (hR:qL Ji zl.ino ks):Fun Tryz.prog G 248 [.sl 6 (zx ks),.sc (.int .i64 n),.clo (.func 249) [] []] (.tup [.sc (.int .i64 (qr Ji zl.ino n ks:Nat)),.sc (.bool (JB zl.ino n ks))]) 0:=by
 refine fon Tryz.func248 ?_;dsimp only[Tryz.f248];push_cast;refine zo0 [.sl 6 (zx ks),.sc (.int .i64 n),.clo (.func 276) [] [.row [.clo (.func 249) [] []]]] (xt ks n hl hR) rfl ?_ ?_
 ·simp[XF,Qa,C.frz,C.frzL]
 push_cast;exact dn
end
end
section
open CA CB
open Go.RowKit
section
variable {G:zr}
abbrev zqn (w:qN) (kc pc:C):C:=.agg [.sc (.int .i64 w.fs.maxI),.sc (.int .i64 w.fs.maxB),.sc (.int .i64 w.fs.next),.sl 6 (zx w.fs.xs),kc,pc]
def zrG (w:qN) (k:zW) (B:List C) (pn pc:Nat) (r:C) (bx':List (List C)) (m:Nat):Prop:=
 m=0/\∃ (c':Nat) (Ls:List (List C)),(Ls = []∨(∃ X,Ls = [X]/\(X.all C.stayB)=true)∨∃ X Y,Ls = [X,Y]/\(X.all C.stayB)=true/\(Y.all C.stayB)=true)/\(zJ (qF k w.kept)).length<=c'/\c'<=9223372036854775807/\r=zqn w (.bs (4+Ls.length) 0 4 (zJ (qF k w.kept)).length c') (.bs 0 0 6 pn pc) /\
  bx'=B :: [.any,.any,.any,.any,.any,.any] :: [.any,.any,.any,.any] :: [.any,.any,.any,.any,.any,.any] :: (Ls++[qx 4 (zJ (qF k w.kept)) c'])
theorem kM (w:qN) (k:zW) (B:List C) (pn pc:Nat) (hB:(B.all C.stayB)=true) (hl:w.kept.length<=90000) (hR:qL Ji zW.slot w.kept) (hn:NK k.slot w.kept=false):YH Tryz.prog G 252 [zqn w (.sl 4 (zJ w.kept)) (.bs 0 0 6 pn pc),.agg (JE k)] [B] 0 (zrG w k B pn pc):=by
 obtain ⟨_,_,h3,h4⟩:=Ue (o:=Ji) k.slot hR;have hll:(zJ w.kept).length=w.kept.length:=We ..;have hat:=vn (G:=G) w.kept k.slot (by omega) hR;have hrl:=Zz (o:=Ji) (key:=zW.slot) k.slot w.kept;have hn':JB zW.slot k.slot w.kept=false:=hn;rw[hn']at hat;have hw:qF k w.kept=w.kept.take (qr Ji zW.slot k.slot w.kept)++k :: w.kept.drop (qr Ji zW.slot k.slot w.kept):=(h4 hn').2.2 k rfl;have hset:zJ (qF k w.kept)=(zJ w.kept).take (qr Ji zW.slot k.slot w.kept)++JE k :: (zJ w.kept).drop (qr Ji zW.slot k.slot w.kept):=by rw[hw];simp
 have hsl:(zJ (qF k w.kept)).length=(zJ w.kept).length+1:=by rw[hset];simp;omega
 refine foX (fun i=>if i=2 then QW [(0,.pure),(1,.pure),(2,.pure),(4,.pure),(5,.pure),(6,.pure),(3,.flt [3,4,5]),(7,.bar),(8,.pure),(9,.pure),(10,.bar)] else []) Tryz.func252 ?_;dsimp only[Tryz.f252];have hBr:∀ fp fo,C.reL fp fo B=B:=fun fp fo=>zE hB;push_cast;refine cl hat ?_;push_cast;refine zlC [] (H3 (zJ w.kept) z6 zt (by omega)) (by decide) (by simp) (by push_cast) (by push_cast) (fun r bx' m hp=>?_);obtain ⟨rfl,⟨hne,c,h1,h2,rfl,rfl⟩ | ⟨he,⟨rfl,rfl⟩ | ⟨rfl,rfl⟩⟩⟩:=hp
 ·have hbl:=JH z6 h1;have hre:∀ fp fo,C.reL fp fo (qx 4 (zJ w.kept) c)=qx 4 (zJ w.kept) c:=fun fp fo=>zE (zG zt);have hpos:=WG.2 hne;have hre2:∀ fp fo c,C.reL fp fo (qx 4 (zJ (qF k w.kept)) c)=qx 4 (zJ (qF k w.kept)) c:=fun fp fo c=>zE (zG zt);push_cast [hre,hBr];refine jy [5] [0] (UA (e:=105) (zJ w.kept) (JE k) (qr Ji zW.slot k.slot w.kept) c z6 rfl zt rfl (by omega) (by omega) h1 h2) rfl (by decide) (by decide) (by simp) (by push_cast [hBr]) (by push_cast [hre,hBr]) (fun r bx' m hp=>?_);rw[←hset]at hp;obtain ⟨rfl,c',g1,g2,⟨rfl,rfl⟩ | ⟨rfl,rfl⟩⟩:=hp
  ·push_cast [hre2,hre,hBr];refine ⟨_,_,0,⟨⟨rfl,c',[[]],.inr (.inl ⟨[],rfl,rfl⟩),g1,g2,rfl,rfl⟩,by simp⟩,[],rfl,rfl,?_,by push_cast [ze,zd,CLe,zg]⟩;push_cast [ze,zd,CLe,zg];exact ⟨zT hB,zT (zG zt)⟩
  ·have hra:∀ fp fo,C.reL fp fo (List.replicate (c*4) .any)=List.replicate (c*4) .any:=fun fp fo=>zE (by simp[OE,C.stayB]);push_cast [hre2,hre,hra,hBr];refine ⟨_,_,0,⟨⟨rfl,c',[[],List.replicate (c*4) .any],.inr (.inr ⟨[],_,rfl,rfl,by simp[OE,C.stayB]⟩),g1,g2,rfl,rfl⟩,by simp⟩,[],rfl,rfl,?_,by push_cast [ze,zd,CLe,zg]⟩;push_cast [ze,zd,CLe,zg];exact ⟨zT hB,zT (by simp[OE,C.stayB]),zT (zG zt)⟩
 ·have he:w.kept = []:=by simpa using he
  have hr0:qr Ji zW.slot k.slot w.kept=0:=by rw[he];rfl
  have hs1:qF k w.kept = [k]:=by rw[he];rfl
  push_cast [hr0];refine jy [] [0] (vZ (e:=105) (JE k) rfl rfl) rfl (by decide) (by decide) (by simp) (by push_cast) (by push_cast) (fun r bx' m hp=>?_);obtain ⟨rfl,c,g1,g2,rfl,rfl⟩:=hp;have hre:∀ fp fo,C.reL fp fo (qx 4 [JE k] c)=qx 4 [JE k] c:=fun fp fo=>zE (zG (zt (ks:=[k])));push_cast [hre,hBr];refine ⟨zqn w (.bs 4 0 4 1 c) (.bs 0 0 6 pn pc),B :: [.any,.any,.any,.any,.any,.any] :: [.any,.any,.any,.any] :: [.any,.any,.any,.any,.any,.any] :: ([]++[qx 4 [JE k] c]),0,⟨⟨rfl,c,[],.inl rfl,by rw[hs1];exact g1,g2,by rw[hs1];rfl,by rw[hs1];rfl⟩,by simp⟩,[],rfl,rfl,?_,by push_cast [ze,zd,CLe,zg]⟩;push_cast [ze,zd,CLe,zg];exact ⟨zT hB,zT (zG (zt (ks:=[k])))⟩
 ·have he:w.kept = []:=by simpa using he
  have hr0:qr Ji zW.slot k.slot w.kept=0:=by rw[he];rfl
  have hs1:qF k w.kept = [k]:=by rw[he];rfl
  push_cast [hr0];refine jy [4] [0] (UA (e:=105) [] (JE k) 0 0 (fun r hr=>by cases hr) rfl (fun r hr=>by cases hr) rfl (by simp) (by simp) (by simp) (by simp)) rfl (by decide) (by decide) (by simp) (by push_cast) (by push_cast [qx]) (fun r bx' m hp=>?_);obtain ⟨rfl,c,g1,g2,hp⟩:=hp;have hre:∀ fp fo,C.reL fp fo (qx 4 [JE k] c)=qx 4 [JE k] c:=fun fp fo=>zE (zG (zt (ks:=[k])));rcases hp with ⟨rfl,rfl⟩ | ⟨rfl,rfl⟩
  ·push_cast [hre,hBr];refine ⟨zqn w (.bs 4 0 4 1 c) (.bs 0 0 6 pn pc),B :: [.any,.any,.any,.any,.any,.any] :: [.any,.any,.any,.any] :: [.any,.any,.any,.any,.any,.any] :: ([]++[qx 4 [JE k] c]),0,⟨⟨rfl,c,[],.inl rfl,by rw[hs1];exact g1,g2,by rw[hs1];rfl,by rw[hs1];rfl⟩,by simp⟩,[],rfl,rfl,?_,by push_cast [ze,zd,CLe,zg]⟩;push_cast [ze,zd,CLe,zg];exact ⟨zT hB,zT (zG (zt (ks:=[k])))⟩
  ·push_cast [hre,hBr];refine ⟨zqn w (.bs 5 0 4 1 c) (.bs 0 0 6 pn pc),B :: [.any,.any,.any,.any,.any,.any] :: [.any,.any,.any,.any] :: [.any,.any,.any,.any,.any,.any] :: ([[]]++[qx 4 [JE k] c]),0,⟨⟨rfl,c,[[]],.inr (.inl ⟨[],rfl,rfl⟩),by rw[hs1];exact g1,g2,by rw[hs1];rfl,by rw[hs1];rfl⟩,by simp⟩,[],rfl,rfl,?_,by push_cast [ze,zd,CLe,zg]⟩;push_cast [ze,zd,CLe,zg];exact ⟨zT hB,zT (zG (zt (ks:=[k])))⟩
end
end
section
open CA CB
open Go.RowKit
theorem jr {bx:List (List C)} {a b:Nat×TypeId×Nat×List (List C)×Nat} (h1:zbv [a] bx) (h2:zbv [b] bx) (hne:a.1≠b.1):zbv [a,b] bx:=⟨by simp[hne],fun x hx=>by
 rcases WK.1 hx with rfl | hx
 ·exact h1.2 _ Wi
 ·exact h2.2 _ hx⟩
theorem zbo (hf:FsI f) {s:zH} (hs:zu f s):(zp f s).xs.length<=f.xs.length:=by
 have hi:=zu.ino hf hs;have hl:=jP (F:=zi s.name) hf.rises hs.has;unfold zp;split
 ·show (qc _ _).length<=_;exact WM ZR (by rw[hl];exact Wb _)
 ·show (qp _ _).length<=_;rw[Jo (show zZ (ql s.dir (zi s.name) f.xs) from z7 hf.rises) ?_,hl]
  ·exact Wb _
  ·show zk (zf s.ino f.xs).ino (ql _ _ _)=true;rw[(zj hi).2.2,zM hs.has];exact hi
theorem zkN (h:zZ xs):qL Ji zl.ino xs:=List.Pairwise.imp (fun {a b} h=>by show decide (a.ino<b.ino)=true;exact Wn h) h
theorem zkK (x:zl):∀ xs:List zl,ZV x xs=Vi Ji zl.ino x xs
 | []=>rfl
 | y :: r=>by
  unfold ZV Vi;rw[zkK x r];have e:Ji.lt x.ino y.ino=decide (x.ino<y.ino):=rfl;rw[e];by_cases h:x.ino<y.ino
  ·rw[if_pos h,if_pos (Wn h)]
  ·rw[if_neg h,if_neg (by simpa using h)]
theorem zkO (hR:zZ xs) (h:∀ y∈xs,y.ino≠x.ino):qp x xs=xs.take (qr Ji zl.ino x.ino xs)++x :: xs.drop (qr Ji zl.ino x.ino xs):=by
 have h1:qc x.ino xs=xs:=BL.2 fun y hy=>by simpa using h y hy
 have h2:JB zl.ino x.ino xs=false:=by
  unfold JB;rw[Ob];intro y hy;simpa using h y hy
 obtain ⟨_,_,_,h4⟩:=Ue (o:=Ji) x.ino (zkN hR);unfold qp;rw[h1,zkK];exact (h4 h2).2.2 x rfl
theorem zjW (w:qN) (hw:Uh w) (hs:FsS w.fs) (hk:w.kept.length<=90000) (hp:w.pool.length<=90000) (n:Int) (s:zH) (hsp:zu w.fs s) (he:(zf s.ino w.fs.xs).es = []):Fun Tryz.prog G0 216 [Q7 w,.sc (.int .i64 n),.agg (X4 s)] (.tup [Q7 (JT w n s).1,.sc (.int .i64 (JT w n s).2)]) 0:=by
 have hf:=hw.fs;have hlen:=hs.len;have hino:=hsp.ino hf;have h1:=zgP (G:=G0) w n (by omega) hw.kept;cases hh:NK n w.kept with
 | true =>
  have e:JT w n s=(w,13):=by unfold JT;rw[hh];rfl
  rw[hh]at h1;refine fof (fun i=>if i=10 then QW [(0,.pure),(1,.pure),(2,.pure),(4,.pure),(5,.pure),(6,.pure),(3,.flt [3,4,5]),(7,.bar),(8,.pure),(9,.pure),(10,.bar)] else []) Tryz.func216 ?_;dsimp only[Tryz.f216];push_cast;refine cl h1 ?_;push_cast;exact dn (by push_cast [ze,zd,CLe,zg,e])
 | false =>
  rw[hh]at h1;have hg:=je (G:=G0) w.fs s.ino (by omega) hf.rises;rw[hino]at hg;have hne:s.dir≠s.ino:=fun e=>by
   have:=hsp.there;rw[e,he]at this;cases this
  have hu:=zbE w.fs hf hs s hsp hne;have hul:=zbo hf hsp;have hg2:=je (G:=G0) (zp w.fs s) s.ino (by omega) (UR hf hsp he).rises;rw[Qy hsp.has hino]at hg2;by_cases hz:(zf s.ino w.fs.xs).links=1
  ·rw[if_pos (show (zf s.ino w.fs.xs).links-1=0 by omega)]at hg2;simp only[decide_true,AK,W8]at hg2;have hxi:=(zj hino).2.2;have hno:∀ y∈w.pool,y.ino≠s.ino:=fun y hy e=>by
    have:=(hw.apart y hy).1;rw[e,hino]at this;cases this
   have hnk:JB zl.ino s.ino w.pool=false:=by
    unfold JB;rw[Ob];intro y hy;simpa using hno y hy
   have e:JT w n s=(⟨zp w.fs s,qF ⟨n,s.ino,false,[]⟩ w.kept,qp { zf s.ino w.fs.xs with links:=0,parent:=0 } w.pool⟩,0):=by unfold JT;rw[hh,if_pos hz];rfl
   have hset:=zkO (x:={ zf s.ino w.fs.xs with links:=0,parent:=0 }) hw.pool (fun y hy=>by rw[show ({ zf s.ino w.fs.xs with links:=0,parent:=0 }:zl).ino=(zf s.ino w.fs.xs).ino from rfl,hxi];exact hno y hy);rw[show ({ zf s.ino w.fs.xs with links:=0,parent:=0 }:zl).ino=s.ino from hxi]at hset;have hat:=zk0 (G:=G0) w.pool s.ino (by omega) (zkN hw.pool);rw[hnk]at hat;have hll:(zx w.pool).length=w.pool.length:=We ..;have hrl:=Zz (o:=Ji) (key:=zl.ino) s.ino w.pool;generalize qr Ji zl.ino s.ino w.pool=r at *;generalize hpl:qp { zf s.ino w.fs.xs with links:=0,parent:=0 } w.pool=pl at *;have hpc:zx pl=(zx w.pool).take r++[.sc (.int .i64 s.ino),.sc (.int .i64 (zf s.ino w.fs.xs).kind),.sc (.int .i64 0),.str (zf s.ino w.fs.xs).data,.sc (.int .i64 0),.sl 2 (zQ (zf s.ino w.fs.xs).es)] :: (zx w.pool).drop r:=by rw[hset];simp[hxi]
   have hpl1:(zx pl).length=(zx w.pool).length+1:=by rw[hpc];simp;omega
   have hre2:∀ fp fo c,C.reL fp fo (qx 6 (zx pl) c)=qx 6 (zx pl) c:=fun fp fo c=>zE (zG zA);have hre4:∀ fp fo c,C.reL fp fo (qx 4 (zJ (qF ⟨n,s.ino,false,[]⟩ w.kept)) c)=qx 4 (zJ (qF ⟨n,s.ino,false,[]⟩ w.kept)) c:=fun fp fo c=>zE (zG zt);have hkp:0<(zJ (qF ⟨n,s.ino,false,[]⟩ w.kept)).length:=by rw[We,qF,Ux];omega
   refine foF (fun i=>if i=10 then QW [(0,.pure),(1,.pure),(2,.pure),(4,.pure),(5,.pure),(6,.pure),(3,.flt [3,4,5]),(7,.bar),(8,.pure),(9,.pure),(10,.bar)] else []) Tryz.func216 ?_;dsimp only[Tryz.f216];push_cast;refine cl h1 ?_;push_cast;refine cl hg ?_;push_cast;refine cl hu ?_;push_cast;refine cl hg2 ?_;push_cast;rw[hxi];refine cl hat ?_;push_cast;refine zlC [] (VM (zx w.pool) zX zA (by omega)) (by decide) (by simp) (by push_cast) (by push_cast) (fun r0 bx' m hp=>?_);obtain ⟨rfl,⟨hne',c,c1,c2,rfl,rfl⟩ | ⟨hnil,⟨rfl,rfl⟩ | ⟨rfl,rfl⟩⟩⟩:=hp
   ·have hbl:=JH zX c1;have hre:∀ fp fo,C.reL fp fo (qx 6 (zx w.pool) c)=qx 6 (zx w.pool) c:=fun fp fo=>zE (zG zA);push_cast [hre];refine jy [7] [0] (Us (e:=64) (zx w.pool) [.sc (.int .i64 s.ino),.sc (.int .i64 (zf s.ino w.fs.xs).kind),.sc (.int .i64 0),.str (zf s.ino w.fs.xs).data,.sc (.int .i64 0),.sl 2 (zQ (zf s.ino w.fs.xs).es)] r c zX rfl zA rfl (by omega) (by omega) c1 c2) rfl (by decide) (by decide) (by simp) (by push_cast) (by push_cast [hre]) (fun r1 bx' m hp=>?_);rw[←hpc]at hp;obtain ⟨rfl,c',g1,g2,⟨rfl,rfl⟩ | ⟨rfl,rfl⟩⟩:=hp
    ·push_cast [hre2,hre];refine jy [7] [] (kM (G:=G0) { w with fs:=zp w.fs s } ⟨n,s.ino,false,[]⟩ (qx 6 (zx pl) c') (zx pl).length c' (zG zA) hk hw.kept hh) rfl (by decide) (by decide) (by simp) (by push_cast) (by push_cast [hre2]) (fun r2 bx' m hp=>?_);obtain ⟨rfl,c3,Ls,hLs,k1,k2,rfl,rfl⟩:=hp;rcases hLs with rfl | ⟨X,rfl,hX⟩ | ⟨X,Y,rfl,hX,hY⟩
     ·push_cast [hre2,hre4];exact ⟨[(11,105,4,zJ (qF ⟨n,s.ino,false,[]⟩ w.kept),c3),(7,64,6,zx pl,c')],[],jr (zB rfl (WI hkp k1) k1 k2 z6 zt) (zB rfl (by omega) g1 g2 zX zA) (show (11:Nat)≠7 by decide),rfl,rfl,by push_cast [ze,zd,CLe,zg,e,AI,Oe]⟩
     ·have hXr:∀ fp fo,C.reL fp fo X=X:=fun fp fo=>zE hX;push_cast [hre2,hre4,hXr];exact ⟨[(12,105,4,zJ (qF ⟨n,s.ino,false,[]⟩ w.kept),c3),(7,64,6,zx pl,c')],[],jr (zB rfl (WI hkp k1) k1 k2 z6 zt) (zB rfl (by omega) g1 g2 zX zA) (show (12:Nat)≠7 by decide),rfl,rfl,by push_cast [ze,zd,CLe,zg,e,AI,Oe]⟩
     ·have hXr:∀ fp fo,C.reL fp fo X=X:=fun fp fo=>zE hX;have hYr:∀ fp fo,C.reL fp fo Y=Y:=fun fp fo=>zE hY;push_cast [hre2,hre4,hXr,hYr];exact ⟨[(13,105,4,zJ (qF ⟨n,s.ino,false,[]⟩ w.kept),c3),(7,64,6,zx pl,c')],[],jr (zB rfl (WI hkp k1) k1 k2 z6 zt) (zB rfl (by omega) g1 g2 zX zA) (show (13:Nat)≠7 by decide),rfl,rfl,by push_cast [ze,zd,CLe,zg,e,AI,Oe]⟩
    ·have hra:∀ fp fo,C.reL fp fo (List.replicate (c*6) .any)=List.replicate (c*6) .any:=fun fp fo=>zE (by simp[OE,C.stayB]);push_cast [hre2,hre,hra];refine jy [8] [] (kM (G:=G0) { w with fs:=zp w.fs s } ⟨n,s.ino,false,[]⟩ (qx 6 (zx pl) c') (zx pl).length c' (zG zA) hk hw.kept hh) rfl (by decide) (by decide) (by simp) (by push_cast) (by push_cast [hre2,hra]) (fun r2 bx' m hp=>?_);obtain ⟨rfl,c3,Ls,hLs,k1,k2,rfl,rfl⟩:=hp;rcases hLs with rfl | ⟨X,rfl,hX⟩ | ⟨X,Y,rfl,hX,hY⟩
     ·push_cast [hre2,hre4,hra];exact ⟨[(12,105,4,zJ (qF ⟨n,s.ino,false,[]⟩ w.kept),c3),(8,64,6,zx pl,c')],[],jr (zB rfl (WI hkp k1) k1 k2 z6 zt) (zB rfl (by omega) g1 g2 zX zA) (show (12:Nat)≠8 by decide),rfl,rfl,by push_cast [ze,zd,CLe,zg,e,AI,Oe]⟩
     ·have hXr:∀ fp fo,C.reL fp fo X=X:=fun fp fo=>zE hX;push_cast [hre2,hre4,hra,hXr];exact ⟨[(13,105,4,zJ (qF ⟨n,s.ino,false,[]⟩ w.kept),c3),(8,64,6,zx pl,c')],[],jr (zB rfl (WI hkp k1) k1 k2 z6 zt) (zB rfl (by omega) g1 g2 zX zA) (show (13:Nat)≠8 by decide),rfl,rfl,by push_cast [ze,zd,CLe,zg,e,AI,Oe]⟩
     ·have hXr:∀ fp fo,C.reL fp fo X=X:=fun fp fo=>zE hX;have hYr:∀ fp fo,C.reL fp fo Y=Y:=fun fp fo=>zE hY;push_cast [hre2,hre4,hra,hXr,hYr];exact ⟨[(14,105,4,zJ (qF ⟨n,s.ino,false,[]⟩ w.kept),c3),(8,64,6,zx pl,c')],[],jr (zB rfl (WI hkp k1) k1 k2 z6 zt) (zB rfl (by omega) g1 g2 zX zA) (show (14:Nat)≠8 by decide),rfl,rfl,by push_cast [ze,zd,CLe,zg,e,AI,Oe]⟩
   ·have hpe:w.pool = []:=by simpa using hnil
    have hr0:r=0:=by rw[hpe]at hrl;exact Nat.le_zero.1 hrl
    subst hr0;have hq:zx pl = [[.sc (.int .i64 s.ino),.sc (.int .i64 (zf s.ino w.fs.xs).kind),.sc (.int .i64 0),.str (zf s.ino w.fs.xs).data,.sc (.int .i64 0),.sl 2 (zQ (zf s.ino w.fs.xs).es)]]:=by rw[hpc,hpe];rfl
    push_cast;refine jy [] [0] (zab (e:=64) [.sc (.int .i64 s.ino),.sc (.int .i64 (zf s.ino w.fs.xs).kind),.sc (.int .i64 0),.str (zf s.ino w.fs.xs).data,.sc (.int .i64 0),.sl 2 (zQ (zf s.ino w.fs.xs).es)] rfl rfl) rfl (by decide) (by decide) (by simp) (by push_cast) (by push_cast) (fun r1 bx' m hp=>?_);have hp:m=0/\∃ c,(zx pl).length<=c/\c<=9223372036854775807/\r1 = .bs 0 0 6 (zx pl).length c/\bx' = [qx 6 (zx pl) c]:=by rw[hq];exact hp
    obtain ⟨rfl,c',g1,g2,rfl,rfl⟩:=hp;push_cast [hre2];refine jy [6] [] (kM (G:=G0) { w with fs:=zp w.fs s } ⟨n,s.ino,false,[]⟩ (qx 6 (zx pl) c') (zx pl).length c' (zG zA) hk hw.kept hh) rfl (by decide) (by decide) (by simp) (by push_cast) (by push_cast [hre2]) (fun r2 bx' m hp=>?_);obtain ⟨rfl,c3,Ls,hLs,k1,k2,rfl,rfl⟩:=hp;rcases hLs with rfl | ⟨X,rfl,hX⟩ | ⟨X,Y,rfl,hX,hY⟩
    ·push_cast [hre2,hre4];exact ⟨[(10,105,4,zJ (qF ⟨n,s.ino,false,[]⟩ w.kept),c3),(6,64,6,zx pl,c')],[],jr (zB rfl (WI hkp k1) k1 k2 z6 zt) (zB rfl (by omega) g1 g2 zX zA) (show (10:Nat)≠6 by decide),rfl,rfl,by push_cast [ze,zd,CLe,zg,e,AI,Oe]⟩
    ·have hXr:∀ fp fo,C.reL fp fo X=X:=fun fp fo=>zE hX;push_cast [hre2,hre4,hXr];exact ⟨[(11,105,4,zJ (qF ⟨n,s.ino,false,[]⟩ w.kept),c3),(6,64,6,zx pl,c')],[],jr (zB rfl (WI hkp k1) k1 k2 z6 zt) (zB rfl (by omega) g1 g2 zX zA) (show (11:Nat)≠6 by decide),rfl,rfl,by push_cast [ze,zd,CLe,zg,e,AI,Oe]⟩
    ·have hXr:∀ fp fo,C.reL fp fo X=X:=fun fp fo=>zE hX;have hYr:∀ fp fo,C.reL fp fo Y=Y:=fun fp fo=>zE hY;push_cast [hre2,hre4,hXr,hYr];exact ⟨[(12,105,4,zJ (qF ⟨n,s.ino,false,[]⟩ w.kept),c3),(6,64,6,zx pl,c')],[],jr (zB rfl (WI hkp k1) k1 k2 z6 zt) (zB rfl (by omega) g1 g2 zX zA) (show (12:Nat)≠6 by decide),rfl,rfl,by push_cast [ze,zd,CLe,zg,e,AI,Oe]⟩
   ·have hpe:w.pool = []:=by simpa using hnil
    have hr0:r=0:=by rw[hpe]at hrl;exact Nat.le_zero.1 hrl
    subst hr0;have hq:zx pl = [[.sc (.int .i64 s.ino),.sc (.int .i64 (zf s.ino w.fs.xs).kind),.sc (.int .i64 0),.str (zf s.ino w.fs.xs).data,.sc (.int .i64 0),.sl 2 (zQ (zf s.ino w.fs.xs).es)]]:=by rw[hpc,hpe];rfl
    push_cast;refine jy [6] [0] (Us (e:=64) [] [.sc (.int .i64 s.ino),.sc (.int .i64 (zf s.ino w.fs.xs).kind),.sc (.int .i64 0),.str (zf s.ino w.fs.xs).data,.sc (.int .i64 0),.sl 2 (zQ (zf s.ino w.fs.xs).es)] 0 0 (fun r hr=>by cases hr) rfl (fun r hr=>by cases hr) rfl (by simp) (by simp) (by simp) (by simp)) rfl (by decide) (by decide) (by simp) (by push_cast) (by push_cast [qx]) (fun r1 bx' m hp=>?_);have hp:zqE 6 (0*6) (zx pl) r1 bx' m:=by rw[hq];exact hp
    obtain ⟨rfl,c',g1,g2,⟨rfl,rfl⟩ | ⟨rfl,rfl⟩⟩:=hp
    ·push_cast [hre2];refine jy [6] [] (kM (G:=G0) { w with fs:=zp w.fs s } ⟨n,s.ino,false,[]⟩ (qx 6 (zx pl) c') (zx pl).length c' (zG zA) hk hw.kept hh) rfl (by decide) (by decide) (by simp) (by push_cast) (by push_cast [hre2]) (fun r2 bx' m hp=>?_);obtain ⟨rfl,c3,Ls,hLs,k1,k2,rfl,rfl⟩:=hp;rcases hLs with rfl | ⟨X,rfl,hX⟩ | ⟨X,Y,rfl,hX,hY⟩
     ·push_cast [hre2,hre4];exact ⟨[(10,105,4,zJ (qF ⟨n,s.ino,false,[]⟩ w.kept),c3),(6,64,6,zx pl,c')],[],jr (zB rfl (WI hkp k1) k1 k2 z6 zt) (zB rfl (by omega) g1 g2 zX zA) (show (10:Nat)≠6 by decide),rfl,rfl,by push_cast [ze,zd,CLe,zg,e,AI,Oe]⟩
     ·have hXr:∀ fp fo,C.reL fp fo X=X:=fun fp fo=>zE hX;push_cast [hre2,hre4,hXr];exact ⟨[(11,105,4,zJ (qF ⟨n,s.ino,false,[]⟩ w.kept),c3),(6,64,6,zx pl,c')],[],jr (zB rfl (WI hkp k1) k1 k2 z6 zt) (zB rfl (by omega) g1 g2 zX zA) (show (11:Nat)≠6 by decide),rfl,rfl,by push_cast [ze,zd,CLe,zg,e,AI,Oe]⟩
     ·have hXr:∀ fp fo,C.reL fp fo X=X:=fun fp fo=>zE hX;have hYr:∀ fp fo,C.reL fp fo Y=Y:=fun fp fo=>zE hY;push_cast [hre2,hre4,hXr,hYr];exact ⟨[(12,105,4,zJ (qF ⟨n,s.ino,false,[]⟩ w.kept),c3),(6,64,6,zx pl,c')],[],jr (zB rfl (WI hkp k1) k1 k2 z6 zt) (zB rfl (by omega) g1 g2 zX zA) (show (12:Nat)≠6 by decide),rfl,rfl,by push_cast [ze,zd,CLe,zg,e,AI,Oe]⟩
    ·push_cast [hre2];refine jy [7] [] (kM (G:=G0) { w with fs:=zp w.fs s } ⟨n,s.ino,false,[]⟩ (qx 6 (zx pl) c') (zx pl).length c' (zG zA) hk hw.kept hh) rfl (by decide) (by decide) (by simp) (by push_cast) (by push_cast [hre2]) (fun r2 bx' m hp=>?_);obtain ⟨rfl,c3,Ls,hLs,k1,k2,rfl,rfl⟩:=hp;rcases hLs with rfl | ⟨X,rfl,hX⟩ | ⟨X,Y,rfl,hX,hY⟩
     ·push_cast [hre2,hre4];exact ⟨[(11,105,4,zJ (qF ⟨n,s.ino,false,[]⟩ w.kept),c3),(7,64,6,zx pl,c')],[],jr (zB rfl (WI hkp k1) k1 k2 z6 zt) (zB rfl (by omega) g1 g2 zX zA) (show (11:Nat)≠7 by decide),rfl,rfl,by push_cast [ze,zd,CLe,zg,e,AI,Oe]⟩
     ·have hXr:∀ fp fo,C.reL fp fo X=X:=fun fp fo=>zE hX;push_cast [hre2,hre4,hXr];exact ⟨[(12,105,4,zJ (qF ⟨n,s.ino,false,[]⟩ w.kept),c3),(7,64,6,zx pl,c')],[],jr (zB rfl (WI hkp k1) k1 k2 z6 zt) (zB rfl (by omega) g1 g2 zX zA) (show (12:Nat)≠7 by decide),rfl,rfl,by push_cast [ze,zd,CLe,zg,e,AI,Oe]⟩
     ·have hXr:∀ fp fo,C.reL fp fo X=X:=fun fp fo=>zE hX;have hYr:∀ fp fo,C.reL fp fo Y=Y:=fun fp fo=>zE hY;push_cast [hre2,hre4,hXr,hYr];exact ⟨[(13,105,4,zJ (qF ⟨n,s.ino,false,[]⟩ w.kept),c3),(7,64,6,zx pl,c')],[],jr (zB rfl (WI hkp k1) k1 k2 z6 zt) (zB rfl (by omega) g1 g2 zX zA) (show (13:Nat)≠7 by decide),rfl,rfl,by push_cast [ze,zd,CLe,zg,e,AI,Oe]⟩
  ·have hz2:¬(zf s.ino w.fs.xs).links-1=0:=by omega
   rw[if_neg hz2,hino]at hg2;have e:JT w n s=({ w with fs:=zp w.fs s,kept:=qF ⟨n,s.ino,false,[]⟩ w.kept },0):=by unfold JT;rw[hh,if_neg hz];rfl
   have hwi:=zdj (G:=G0) { w with fs:=zp w.fs s } ⟨n,s.ino,false,[]⟩ hk hw.kept hh;refine fof (fun i=>if i=10 then QW [(0,.pure),(1,.pure),(2,.pure),(4,.pure),(5,.pure),(6,.pure),(3,.flt [3,4,5]),(7,.bar),(8,.pure),(9,.pure),(10,.bar)] else []) Tryz.func216 ?_;dsimp only[Tryz.f216];push_cast;refine cl h1 ?_;push_cast;refine cl hg ?_;push_cast;refine cl hu ?_;push_cast;refine cl hg2 ?_;push_cast;refine cl hwi ?_;push_cast;exact dn (by push_cast [ze,zd,CLe,zg,e])
end
section
open CA CB
open Go.RowKit
end
section
open CA CB
open Go.RowKit
theorem zoE (hf:FsI f) (p:Lz):(atV f p).1.ino≠0->zk (atV f p).1.ino f.xs=true:=by
 unfold atV;split
 ·exact vR hf (zn p) ⟨0,[],1⟩ fun _=>hf.root
 ·intro h;exact absurd rfl h
theorem zgw (hf:FsI f) (p:Lz):zk (atV f p).1.ino f.xs = !decide ((atV f p).1.ino=0):=by
 by_cases h:(atV f p).1.ino=0
 ·rw[Wn h];cases hh:zk (atV f p).1.ino f.xs with
  | false=>rfl
  | true=>exact absurd h (XE hf hh)
 ·rw[zoE hf p h,Wj h];rfl
theorem zjD (f:FsV) (hf:FsI f) (hs:FsS f) (p:Lz) (hp:p.length<=1000000):Fun Tryz.prog G0 238 [.agg (fsC f),.str p] (.tup [.agg (X4 (isV f p false).1),.sc (.int .i64 (isV f p false).2.2)]) 0:=by
 have h1:=Nl f hf hs p hp;have hi:=zgw hf p;have e1:(isV f p false).1=(atV f p).1:=rfl;by_cases h0:(atV f p).2=0
 ·have h0':=eq_true h0;by_cases hz:(atV f p).1.ino=0
  ·have hz':=eq_true hz;rw[Wn hz]at hi;have e3:(isV f p false).2.2=0:=by unfold isV;simp[h0,hi]
   refine fon Tryz.func238 ?_;dsimp only[Tryz.f238];push_cast;refine cl h1 ?_;push_cast [h0',hz'];exact dn (by push_cast [ze,zd,CLe,zg,e1,e3])
  ·have hz':=WH hz;rw[Wj hz]at hi;have e3:(isV f p false).2.2=2:=by unfold isV;simp[h0,hi]
   refine fon Tryz.func238 ?_;dsimp only[Tryz.f238];push_cast;refine cl h1 ?_;push_cast [h0',hz'];exact dn (by push_cast [ze,zd,CLe,zg,e1,e3])
 ·have h0':=WH h0;have e3:(isV f p false).2.2=(atV f p).2:=by unfold isV;simp[h0]
  refine fon Tryz.func238 ?_;dsimp only[Tryz.f238];push_cast;refine cl h1 ?_;push_cast [h0'];exact dn (by push_cast [ze,zd,CLe,zg,e1,e3])
structure zkF (w:qN):Prop where
 fs:FsS w.fs
 next:zrY w.fs
 kept:w.kept.length<=10000
 pool:w.pool.length<=10000
end
section
open CA CB
open Go.RowKit
theorem zd8 (hf:FsI f) {p:Lz} (h:(isV f p false).2.2=0):(isV f p false).1.ino=0:=by
 have hz:=VC h;have hi:=zgw hf p;unfold isV at h ⊢;simp only[hz]at h ⊢;by_cases h0:(atV f p).1.ino=0
 ·exact h0
 ·rw[Wj h0]at hi;rw[hi]at h;simp at h
theorem zeL (w:qN) (hw:Uh w) (hs:zkF w) (o:OpV) (ho:zaz o) (pa:qm o.a=true) (pb:qm o.b=true):Fun Tryz.prog G0 212 [Q7 w,.agg (opL o)] (.tup [Q7 (JN w o).1,.sc (.int .i64 (JN w o).2)]) 0:=by
 have h1:=xh w.fs hw.fs hs.fs o.a ho.1;have h2:=zjD w.fs hw.fs hs.fs o.b ho.2.1;unfold opL;by_cases h0:(isV w.fs o.a true).2.2=0
 ·have h0':=eq_true h0;obtain ⟨t1,t2⟩:=jB hw.fs pa h0;by_cases hb:(isV w.fs o.b false).2.2=0
  ·have hb':=eq_true hb;have hfree:=JZ hw.fs pb hb;have hn:=zjY w.fs hw.fs hs.fs (isV w.fs o.a true).1 (isV w.fs o.b false).1 t1 hfree (zd8 hw.fs hb);have e:JN w o=({ w with fs:=jx w.fs (isV w.fs o.a true).1 (isV w.fs o.b false).1 },0):=by unfold JN;simp[h0,hb]
   refine fon Tryz.func212 ?_;dsimp only[Tryz.f212];push_cast;refine cl h1 ?_;push_cast [h0'];refine cl h2 ?_;push_cast [hb'];refine cl hn ?_;push_cast;exact dn (by push_cast [ze,zd,CLe,zg,e,hb])
  ·have hb':=WH hb;have e:JN w o=(w,(isV w.fs o.b false).2.2):=by unfold JN;simp[h0,hb]
   refine fon Tryz.func212 ?_;dsimp only[Tryz.f212];push_cast;refine cl h1 ?_;push_cast [h0'];refine cl h2 ?_;push_cast [hb'];exact dn (by push_cast [ze,zd,CLe,zg,e])
 ·have h0':=WH h0;have e:JN w o=(w,(isV w.fs o.a true).2.2):=by unfold JN;simp[h0]
  refine fon Tryz.func212 ?_;dsimp only[Tryz.f212];push_cast;refine cl h1 ?_;push_cast [h0'];exact dn (by push_cast [ze,zd,CLe,zg,e])
end
section
open CA CB
open Go.RowKit
theorem zbH (w:qN) (hw:Uh w) (hs:zkF w) (o:OpV) (s:zH) (hsp:zu w.fs s) (he:(zf s.ino w.fs.xs).es = []):Nr Tryz.prog G0 215 [.agg (X4 s),.ptr 0 0,.ptr 1 0] [Nw w,opL o] 0 (.tup [Q7 (JT w o.slot s).1,.sc (.int .i64 (JT w o.slot s).2)]) [Nw w,opL o] 0:=by
 have h:=zjW w hw hs.fs (by have:=hs.kept;omega) (by have:=hs.pool;omega) o.slot s hsp he;unfold opL;refine foB (fun _=>[]) Tryz.func215 ?_;dsimp only[Tryz.f215];push_cast;refine cl h ?_;push_cast;exact ⟨[],rfl,rfl,by push_cast [ze,zd,CLe,zg],by push_cast [ze,zd,CLe,zg]⟩
theorem zhu (w:qN) (hw:Uh w) (hs:zkF w) (o:OpV) (ho:zaz o) (pa:qm o.a=true):Nr Tryz.prog G0 214 [Q7 w,.str o.a,.clo (.func 215) [] [.ptr 0 0,.ptr 1 0]] [Nw w,opL o] 0 (.tup [Q7 (qM w o).1,.sc (.int .i64 (qM w o).2)]) [Nw w,opL o] 0:=by
 have h1:=xh w.fs hw.fs hs.fs o.a ho.1;by_cases h0:(isV w.fs o.a true).2.2=0
 ·have h0':=eq_true h0;obtain ⟨t1,t2⟩:=jB hw.fs pa h0;by_cases hes:(isV w.fs o.a true).2.1.es = []
  ·have hel:(0<(zQ (isV w.fs o.a true).2.1.es).length)=False:=WH (by rw[hes];simp);have he:(zf (isV w.fs o.a true).1.ino w.fs.xs).es = []:=by rw[←t2];exact hes
   have hd:=zbH w hw hs o (isV w.fs o.a true).1 t1 he;have e:qM w o=JT w o.slot (isV w.fs o.a true).1:=by unfold qM;simp[h0,hes]
   unfold opL at hd ⊢;refine foB (fun _=>[]) Tryz.func214 ?_;dsimp only[Tryz.f214];push_cast;refine cl h1 ?_;push_cast [h0',hel];refine VK [0,1] [] hd rfl (by decide) (by decide) (by simp) (by push_cast) (by push_cast) ?_;push_cast;exact ⟨[],rfl,rfl,by push_cast [ze,zd,CLe,zg],by push_cast [ze,zd,CLe,zg,e]⟩
  ·have hel:(0<(zQ (isV w.fs o.a true).2.1.es).length)=True:=eq_true (by rw[We];exact WG.2 hes);have e:qM w o=(w,5):=by unfold qM;simp[h0,hes]
   unfold opL;refine foB (fun _=>[]) Tryz.func214 ?_;dsimp only[Tryz.f214];push_cast;refine cl h1 ?_;push_cast [h0',hel];exact ⟨[],rfl,rfl,by push_cast [ze,zd,CLe,zg],by push_cast [ze,zd,CLe,zg,e]⟩
 ·have h0':=WH h0;have e:qM w o=(w,(isV w.fs o.a true).2.2):=by unfold qM;simp[h0]
  unfold opL;refine foB (fun _=>[]) Tryz.func214 ?_;dsimp only[Tryz.f214];push_cast;refine cl h1 ?_;push_cast [h0'];exact ⟨[],rfl,rfl,by push_cast [ze,zd,CLe,zg],by push_cast [ze,zd,CLe,zg,e]⟩
theorem zdZ (w:qN) (hw:Uh w) (hs:zkF w) (o:OpV) (ho:zaz o) (pa:qm o.a=true):Fun Tryz.prog G0 213 [Q7 w,.agg (opL o)] (.tup [Q7 (qM w o).1,.sc (.int .i64 (qM w o).2)]) 0:=by
 have h:=zhu w hw hs o ho pa;unfold opL at h ⊢;refine fon Tryz.func213 ?_;dsimp only[Tryz.f213];push_cast;refine VK [0,1] [] h rfl (by decide) (by decide) (by simp) (by push_cast) (by push_cast) ?_;push_cast;exact dn
end
section
open Go.RowKit
section
variable {G:zr}
abbrev znJ:List C:=[.clo (.func 206) [] [],.clo (.func 208) [] [],.clo (.func 209) [] [],.clo (.func 210) [] [],.clo (.func 211) [] [],.clo (.func 212) [] [],.clo (.func 213) [] [],.clo (.func 217) [] [],.clo (.func 220) [] [],.clo (.func 221) [] []]
theorem xz:Fun Tryz.prog G 171 [] (.mo 0 231 (.int .i64 [1,2,3,4,5,6,7,8,9,10]) znJ) 1:=by
 refine fon Tryz.func171 ?_;dsimp only[Tryz.f171];push_cast [Hl,kL,Oo,OV,Om,reduceIte,Int.reduceEq];exact ⟨[.inl 0],rfl,rfl,by push_cast [ze,zd,CLe,zg]⟩
end
end
section
open CA CB
open Go.RowKit
theorem Fun.g0 {G':zr} {f:FuncId} {r:C} {n:Nat} (h:Fun P G0 f args r n):Fun P G' f args r n:=⟨h.1,fun R vs hg hv=>h.2 R vs (vm R) hv⟩
end
section
open Go.RowKit
section
variable {G:zr}
theorem VQ (o:OpV):Fun Tryz.prog G 128 [.agg (opL o)] (.sc (.bool (decide (o.kind=3∨o.kind=7)))) 0:=by
 unfold opL;by_cases h:o.kind=3
 ·have h':=eq_true h;refine fon Tryz.func128 ?_;dsimp only[Tryz.f128];push_cast [h'];exact dn (by push_cast [ze,zd,CLe,zg,h',true_or,decide_true])
 ·have h':=WH h;refine fon Tryz.func128 ?_;dsimp only[Tryz.f128];push_cast [h'];exact dn (by push_cast [ze,zd,CLe,zg,h',false_or])
end
end
section
open Go.RowKit
abbrev zqH (d:zY):List C:=[.sc (.int .i64 d.w.fs.maxI),.sc (.int .i64 d.w.fs.maxB),.sc (.int .i64 d.w.fs.next),.sl 6 (zx d.w.fs.xs),.sl 4 (zJ d.w.kept),.sl 6 (zx d.w.pool),.sl 5 (d.ops.map opL),.sl 1 (qg d.diags),.sc (.int .i64 d.status),.sc (.int .i64 d.slot)]
abbrev HV (d:zY):C:=.agg (zqH d)
section
variable {G:zr}
end
end
section
open CA CB
open Go.RowKit
theorem zb2 [DecidableEq κ] {key:α->κ} {n:κ} {xs:List α} {i:Nat} (h:i<xs.length) (h0:JB key n (xs.take i)=false) :
  (key xs[i]=n->qA key n xs=some xs[i])/\(key xs[i]≠n->JB key n (xs.take (i+1))=false):=by
 have e:xs=xs.take i++xs[i] :: xs.drop (i+1):=by rw[←Of h,W2]
 refine ⟨fun hk=>?_,fun hk=>?_⟩
 ·have q:qA key n xs=qA key n (xs.take i++xs[i] :: xs.drop (i+1)):=Wu _ e;rw[q];unfold qA;unfold JB at h0;rw[Ob]at h0;rw[List.find?_append,Bb.2 fun x hx=>h0 x hx,Option.none_or,OQ,Wn hk]
 ·unfold JB at h0 ⊢;rw[WV,Wa h,BH,h0];simp[hk]
theorem zhs [DecidableEq κ] {key:α->κ} {n:κ} {xs:List α} (h0:JB key n xs=false):qA key n xs=none:=by
 rw[qh]at h0;cases h:qA key n xs with
 | none=>rfl
 | some x=>rw[h]at h0;cases h0
section
variable {G:zr}
theorem zfe (es:List zO) (n:Lz) (hl:es.length<=100000):Fun Tryz.prog G 51 [.sl 2 (zQ es),.str n] (.tup [.sc (.int .i64 (zK n es)),.sc (.bool (Yb n es))]) 0:=by
 have hll:(zQ es).length=es.length:=We ..;refine fon Tryz.func51 ?_;dsimp only[Tryz.f51];push_cast;refine loop (fun i:Nat=>⟨[(0,.sl 2 (zQ es)),(1,.str n),(6,.sc (.int .i64 i))],[],0,0⟩) (fun i=>i<=es.length/\JB zO.name n (es.take i)=false) (fun i=>es.length-i) 0 ⟨Wd _,rfl⟩ ?_ ?_
 ·exact wk
 ·rintro i ⟨h1,h2⟩;by_cases h:i<es.length
  ·have g1:=JV es i h;obtain ⟨q1,q2⟩:=zb2 h h2;by_cases he:es[i].name=n
   ·have q:=q1 he;have e1:Yb n es=true:=by unfold Yb;rw[qh,q];rfl
    have e2:zK n es=es[i].ino:=by unfold zK;rw[q]
    push_cast [hll,h,g1,he]
    repeat refine an ?_
    exact dn (by push_cast [ze,zd,CLe,zg,e1,e2])
   ·push_cast [hll,h,g1,he]
    repeat refine an ?_
    exact ⟨i+1,⟨h,q2 he⟩,by omega,wk⟩
  ·rw[Wg (by omega)]at h2;have e1:Yb n es=false:=h2;have e2:zK n es=0:=by unfold zK;rw[zhs h2]
   push_cast [hll,h];exact dn (by push_cast [ze,zd,CLe,zg,e1,e2])
end
theorem Nf (f:FsV) (hf:FsI f) (hs:FsS f) (p:Lz) (hp:p.length<=1000000):Fun Tryz.prog G0 22 [.agg (fsC f),.str p] (.tup [.agg (X4 (atV f p).1),.sc (.int .i64 (atV f p).2)]) 0:=by
 have hpl:=VX p (by omega);have hlen:=hs.len;have hnl:(zn p).length<=1000000:=by have:=qJ p;omega
 cases hpp:jE p with
 | false =>
  have e:atV f p=(jb,9):=by unfold atV;rw[hpp];rfl
  unfold Yv at hpl;rw[hpp]at hpl;refine fof (fun i=>if i=14 then [false,false,false,false,false,false,false,false,true] else []) Tryz.func22 ?_;dsimp only[Tryz.f22];push_cast;refine cl hpl ?_;push_cast;exact dn (by push_cast [ze,zd,CLe,zg,e,jb])
 | true =>
  have e:atV f p=atW f.xs (zn p) ⟨0,[],1⟩:=by unfold atV;rw[hpp];rfl
  unfold Yv at hpl;rw[hpp,if_pos rfl]at hpl;generalize zn p=ns at hpl hnl e;have hsl:(qg ns).length=ns.length:=We ..;refine fof (fun i=>if i=14 then [false,false,false,false,false,false,false,false,true] else []) Tryz.func22 ?_;dsimp only[Tryz.f22];push_cast;refine cl hpl ?_;push_cast;refine loop (fun x:Nat×zH=>⟨[(1,.str p),(2,.ptr 0 0),(4,.ptr 1 0),(6,.own 0 9 1 (qg ns)),(8,.ptr 2 0),(9,.sc (.int .i64 x.1))],[fsC f,[.sc (.int .i64 0),.str [],.sc (.int .i64 0)],X4 x.2],1,0⟩)
   (fun x=>x.1<=ns.length/\atW f.xs ns ⟨0,[],1⟩=atW f.xs (ns.drop x.1) x.2/\(x.2.ino≠0->zk x.2.ino f.xs=true)) (fun x=>ns.length-x.1) (0,⟨0,[],1⟩) ⟨Wd _,rfl,fun _=>hf.root⟩ ?_ ?_
  ·exact wks [.inl 0] (by push_cast [ze,zd,CLe,zg,hsl])
  rintro ⟨k,s⟩ ⟨hk,hat,hin⟩;simp only at hk hat hin ⊢;by_cases hlt:k<ns.length
  ·have gs:=M8 hlt;have hdr:ns.drop k=ns[k] :: ns.drop (k+1):=Of hlt;obtain ⟨nm,hnm⟩:∃ nm,ns[k]=nm:=⟨_,rfl⟩;rw[hnm]at gs hdr;by_cases h0:s.ino=0
   ·have hr:atV f p=(jb,1):=by rw[e,hat,hdr];unfold atW;rw[if_pos h0]
    push_cast [hsl,hlt,h0];exact dn (by push_cast [ze,zd,CLe,zg,hr,jb])
   ·have hh:=hin h0;have hg:=JK (G:=G0) f s.ino (by omega);have hgg:=zj hh;rw[hh]at hg;by_cases hk2:(zf s.ino f.xs).kind=2
    ·have hfd:=zfe (G:=G0) (zf s.ino f.xs).es nm (by have:=hs.es hh;omega);have hnx:atW f.xs ns ⟨0,[],1⟩=atW f.xs (ns.drop (k+1)) ⟨(zf s.ino f.xs).ino,nm,zK nm (zf s.ino f.xs).es⟩:=by
      rw[hat,hdr]
      conv=>lhs;unfold atW
      rw[if_neg h0,if_neg (by simp[hk2])]
     have hin2:zK nm (zf s.ino f.xs).es≠0->zk (zK nm (zf s.ino f.xs).es) f.xs=true:=fun hne=>by
      refine X8 hf hh ?_;unfold Yb;rw[qh];cases hq:qA zO.name nm (zf s.ino f.xs).es with
      | some e=>rfl
      | none=>unfold zK at hne;rw[hq]at hne;exact absurd rfl hne
     push_cast [hsl,hlt,h0];refine cl hg ?_;push_cast [hk2,gs]
     repeat refine an ?_
     refine cl hfd ?_;push_cast [gs]
     repeat refine an ?_
     exact ⟨(k+1,⟨(zf s.ino f.xs).ino,nm,zK nm (zf s.ino f.xs).es⟩),⟨hlt,hnx,hin2⟩,by simp only;omega,wks [.inl 0]⟩
    ·have hr:atV f p=(jb,3):=by rw[e,hat,hdr];unfold atW;rw[if_neg h0,if_pos hk2]
     push_cast [hsl,hlt,h0];refine cl hg ?_;push_cast [hk2];exact dn (by push_cast [ze,zd,CLe,zg,hr,jb])
  ·have hd0:ns.drop k = []:=OG (by omega);have hr:atV f p=(s,0):=by rw[e,hat,hd0];rfl
   push_cast [hsl,hlt];exact dn (by push_cast [ze,zd,CLe,zg,hr])
end
section
open CA CB
open Go.RowKit
theorem zh2 {f:C} (hx:x.es = []) (R:Env) (vs:List Value) (h:zy R zI [f,.agg [.sc (.int .i64 x.ino),.sc (.int .i64 x.kind),.sc (.int .i64 x.links),.str x.data,.sc (.int .i64 x.parent),.sc (.slice none 0 0)]] vs):zy R zI [f,.agg (Yf x)] vs:=by
 obtain ⟨v1,us1,rfl,h1,h⟩:=zh.1 h;obtain ⟨v2,us2,rfl,h2,h⟩:=zh.1 h;refine zh.2 ⟨_,_,rfl,h1,zh.2 ⟨_,_,rfl,?_,h⟩⟩;obtain ⟨ws,rfl,hw⟩:=Jk.1 h2;obtain ⟨w1,t1,e1,g1,hw⟩:=zh.1 hw;obtain ⟨w2,t2,e2,g2,hw⟩:=zh.1 hw;obtain ⟨w3,t3,e3,g3,hw⟩:=zh.1 hw;obtain ⟨w4,t4,e4,g4,hw⟩:=zh.1 hw;obtain ⟨w5,t5,e5,g5,hw⟩:=zh.1 hw;obtain ⟨w6,t6,e6,g6,hw⟩:=zh.1 hw;refine Jk.2 ⟨ws,rfl,?_⟩;have g6':Rep R zI (.sl 2 (zQ x.es)) w6:=by rw[hx];exact zj5 g6
 rw[e1,e2,e3,e4,e5,e6];exact zh.2 ⟨_,_,rfl,g1,zh.2 ⟨_,_,rfl,g2,zh.2 ⟨_,_,rfl,g3,zh.2 ⟨_,_,rfl,g4,zh.2 ⟨_,_,rfl,g5,zh.2 ⟨_,_,rfl,g6',hw⟩⟩⟩⟩⟩⟩
theorem GF {G:zr} (f:FsV) (x:zl) (hx:x.es = []) (hl:f.xs.length<=90000) :
  Fun Tryz.prog G 58 [.agg (fsC f),.agg [.sc (.int .i64 x.ino),.sc (.int .i64 x.kind),.sc (.int .i64 x.links),.str x.data,.sc (.int .i64 x.parent),.sc (.slice none 0 0)]] (.agg [.sc (.int .i64 f.maxI),.sc (.int .i64 f.maxB),.sc (.int .i64 f.next),.own 0 64 6 (zx (qp x f.xs))]) 1:=
 (uE f x hl).argsLe (zh2 hx)
end
section
open CA CB
open Go.RowKit
theorem kz (h:i<ks.length):Ja (ks.take (i+1))=ks[i].slot:=by
 have q:(ks.take (i+1)).getLast?=some ks[i]:=by
  rw[List.getLast?_eq_getElem?,show (ks.take (i+1)).length-1=i by rw[W5];omega,Bn (by omega),Wa h]
 unfold Ja;rw[q]
section
variable {G:zr}
theorem UH (w:qN):Fun Tryz.prog G 106 [Q7 w] (.agg [.sc (.int .i64 0),.sc (.int .i64 0),.sc (.int .i64 0),.sl 6 (zx w.pool)]) 0:=by
 refine fon Tryz.func106 ?_;dsimp only[Tryz.f106];push_cast;exact dn
theorem UZ (w:qN) (hk:w.kept.length<=100000) (hR:qL Ji zW.slot w.kept) (hp:∀ k∈w.kept,1<=k.slot):Fun Tryz.prog G 35 [Q7 w] (.sc (.int .i64 (Ja w.kept))) 0:=by
 obtain ⟨f,ks,pool⟩:=w;have hk:ks.length<=100000:=hk;have hll:(zJ ks).length=ks.length:=We ..;show Fun Tryz.prog G 35 [Q7 ⟨f,ks,pool⟩] (.sc (.int .i64 (Ja ks))) 0;have h0:Ja []=0:=rfl;refine fon Tryz.func35 ?_;dsimp only[Tryz.f35];push_cast;refine loop (fun i:Nat=>⟨[(1,.ptr 0 0),(3,.sc (.int .i64 (Ja (ks.take i)))),(4,.sc (.int .i64 i))],[Nw ⟨f,ks,pool⟩],0,0⟩) (fun i=>i<=ks.length) (fun i=>ks.length-i) 0 (Wd _) ?_ ?_
 ·exact wk (by push_cast [ze,zd,CLe,zg,Oy,h0])
 ·intro i hi;by_cases h:i<ks.length
  ·have g1:=JG ks i h;have e1:Ja (ks.take (i+1))=ks[i].slot:=kz h;have e2:(if ks[i].slot>Ja (ks.take i) then ks[i].slot else Ja (ks.take i))=ks[i].slot:=by
    suffices hle:Ja (ks.take i)<=ks[i].slot by split<;>omega
    rcases O2 i with rfl | hpos
    ·have:=hp _ (WB h);show (0:Int)<=_;omega
    ·obtain ⟨j,rfl⟩:∃ j,i=j+1:=⟨i-1,by omega⟩;have hj:j<ks.length:=by omega
     rw[kz hj];have:=(WQ.1 hR) j (j+1) hj h (by omega);have:ks[j].slot<ks[j+1].slot:=WN this;omega
   push_cast [hll,h,g1]
   repeat refine an ?_
   exact ⟨i+1,h,by omega,wk (by push_cast [ze,zd,CLe,zg,e1,e2])⟩
  ·rw[Wg (by omega)];push_cast [hll,h];exact dn
end
end
section
open CA CB
open Go.RowKit
end
section
open CA CB
open Go.RowKit
def zr5 (n:Int):List C:=[.sc (.int .i64 n)]
abbrev zq9 (l:List Int):List (List C):=l.map zr5
theorem yz (l:List Int):(zq9 l).length=l.length:=We _
theorem zeY (l:List Int) (n:Int):zq9 l++[[.sc (.int .i64 n)]]=zq9 (l++[n]):=by simp[zr5]
attribute [push_cast] yz zeY
abbrev zgY (l:List OpV):List (List C):=l.map opL
theorem xN (l:List OpV):(zgY l).length=l.length:=We _
theorem zeM (l:List OpV) (k:Nat) (h:k<l.length):(zgY l)[k]?=some (opL (l[k]'h)):=by rw[Wv,Wa h];rfl
theorem zeO (l:List OpV) (k:Nat):(zgY l).take k=zgY (l.take k):=List.map_take.symm
theorem zem (l:List OpV) (k:Nat):(zgY l).drop k=zgY (l.drop k):=List.map_drop.symm
attribute [push_cast] xN zeO zem
end
section
open Go.RowKit
def zki (l:List OpV):List Int:=(l.filter fun o=>Vz o.kind).map (·.slot)
end
section
open Go.RowKit
def zlF (o p:OpV):Bool:=decide (o.kind=p.kind)&&decide (o.slot=p.slot)&&decide (o.a=p.a)&&decide (o.b=p.b)&&decide (o.d=p.d)
def J0:List OpV->List OpV->Bool
 | [],[]=>true
 | o :: r,p :: s=>zlF o p&&J0 r s
 | _,_=>false
theorem XC:∀ l m:List OpV,J0 l m=true↔l.length=m.length/\∀ (j:Nat) (h:j<l.length) (h':j<m.length),zlF (l[j]'h) (m[j]'h')=true
 | [],[]=>by simp[J0]
 | [],p :: s=>by simp[J0]
 | o :: r,[]=>by simp[J0]
 | o :: r,p :: s=>by
  have ih:=XC r s;simp only[J0,Wp,ih,Wr];constructor
  ·rintro ⟨h1,h2,h3⟩;refine ⟨by omega,fun j hj hj'=>?_⟩;cases j with
   | zero=>exact h1
   | succ j=>exact h3 j (by omega) (by omega)
  ·rintro ⟨h1,h2⟩;exact ⟨h2 0 (by omega) (by omega),by omega,fun j hj hj'=>h2 (j+1) (by omega) (by omega)⟩
end
section
open CA CB
open Go.RowKit
end
section
open CA CB
open Go.RowKit
end
section
open CA CB
open Go.RowKit
def Jx (f:FsV):Prop:=1<=f.maxI/\f.maxI<=1073741824/\0<=f.maxB/\f.maxB<=1073741824/\f.next<=1099511627776/\(∀ x∈f.xs,1<=x.ino/\x.ino<f.next)/\zZ f.xs/\zk 1 f.xs=true/\(zf 1 f.xs).kind=2
instance (f:FsV):Decidable (Jx f):=by unfold Jx;infer_instance
def YC (f:FsV):Prop:=∀ x∈f.xs,∀ e∈x.es,zk e.ino f.xs=true
instance (f:FsV):Decidable (YC f):=by unfold YC;infer_instance
def Hh (f:FsV):Prop:=(f.xs.length:Int)<=f.maxI/\(qj f.xs:Int)<=f.maxB
instance (f:FsV):Decidable (Hh f):=by unfold Hh;infer_instance
theorem qn {l:List α} (h:i<l.length) {P:α->Prop} (h1:∀ x∈l.take i,P x) (h2:P l[i]):∀ x∈l.take (i+1),P x:=fun x hx=>by
 rw[WV,Wa h]at hx;rcases Wz.1 hx with hx | hx
 ·exact h1 x hx
 ·simp at hx;subst hx;exact h2
section
variable {G:zr}
theorem xA (f:FsV) (hl:f.xs.length<=100000):Fun Tryz.prog G 153 [.agg (fsC f)] (.sc (.bool (decide (Jx f)))) 0:=by
 have hll:(zx f.xs).length=f.xs.length:=We ..;refine fon Tryz.func153 ?_;dsimp only[Tryz.f153];by_cases e0:f.maxI<1
 case pos =>
  have hn:¬Jx f:=fun h=>by have:=h.1;omega
  push_cast [e0];exact dn (by push_cast [ze,zd,CLe,zg,hn])
 by_cases e1:1073741824<f.maxI
 case pos =>
  have hn:¬Jx f:=fun h=>by have:=h.2.1;omega
  push_cast [e0,e1];exact dn (by push_cast [ze,zd,CLe,zg,hn])
 by_cases e2:f.maxB<0
 case pos =>
  have hn:¬Jx f:=fun h=>by have:=h.2.2.1;omega
  push_cast [e0,e1,e2];exact dn (by push_cast [ze,zd,CLe,zg,hn])
 by_cases e3:1073741824<f.maxB
 case pos =>
  have hn:¬Jx f:=fun h=>by have:=h.2.2.2.1;omega
  push_cast [e0,e1,e2,e3];exact dn (by push_cast [ze,zd,CLe,zg,hn])
 by_cases e4:1099511627776<f.next
 case pos =>
  have hn:¬Jx f:=fun h=>by have:=h.2.2.2.2.1;omega
  push_cast [e0,e1,e2,e3,e4];exact dn (by push_cast [ze,zd,CLe,zg,hn])
 push_cast [e0,e1,e2,e3,e4];refine loop (fun i:Nat=>⟨[(1,.ptr 0 0),(3,.sc (.int .i64 i))],[fsC f],0,0⟩) (fun i=>i<=f.xs.length/\∀ x∈f.xs.take i,1<=x.ino/\x.ino<f.next) (fun i=>f.xs.length-i) 0 ⟨Wd _,fun x hx=>by simp at hx⟩ ?_ ?_
 ·exact wk
 ·rintro i ⟨h1,h2⟩;by_cases h:i<f.xs.length
  ·have g1:=jt f.xs i h;by_cases c1:f.xs[i].ino<1
   ·have hn:¬Jx f:=fun h'=>by have:=h'.2.2.2.2.2.1 _ (WB h);omega
    push_cast [hll,h,g1,c1]
    repeat refine an ?_
    exact dn (by push_cast [ze,zd,CLe,zg,hn])
   ·by_cases c2:f.next<=f.xs[i].ino
    ·have hn:¬Jx f:=fun h'=>by have:=h'.2.2.2.2.2.1 _ (WB h);omega
     push_cast [hll,h,g1,c1,c2]
     repeat refine an ?_
     exact dn (by push_cast [ze,zd,CLe,zg,hn])
    ·push_cast [hll,h,g1,c1,c2]
     repeat refine an ?_
     exact ⟨i+1,⟨h,qn h h2 (by omega)⟩,by omega,wk⟩
  ·rw[Wg (by omega)]at h2;have hf:Jx f↔zZ f.xs/\zk 1 f.xs=true/\(zf 1 f.xs).kind=2:=⟨fun h=>h.2.2.2.2.2.2,fun h=>⟨by omega,by omega,by omega,by omega,by omega,h2,h⟩⟩;push_cast [hll,h];refine cl (JK f 1 hl) ?_;push_cast;by_cases c1:zZ f.xs
   ·cases c2:zk 1 f.xs with
    | true =>
     refine cl (Un f hl) ?_;push_cast [Wn c1,c2];exact dn (by push_cast [ze,zd,CLe,zg,hf,c1,c2])
    | false =>
     have hn:¬Jx f:=fun h=>by have:=(hf.1 h).2.1;rw[c2]at this;cases this
     refine cl (Un f hl) ?_;push_cast [Wn c1,c2];exact dn (by push_cast [ze,zd,CLe,zg,hn])
   ·have hn:¬Jx f:=fun h=>c1 (hf.1 h).1;refine cl (Un f hl) ?_;push_cast [Wj c1];exact dn (by push_cast [ze,zd,CLe,zg,hn])
theorem NQ (f:FsV) (hf:FsS f):Fun Tryz.prog G 155 [.agg (fsC f)] (.sc (.bool (decide (YC f)))) 0:=by
 have hll:(zx f.xs).length=f.xs.length:=We ..;have h40:=hf.len;refine fof (fun i=>if i=7 then j9 15 16 else []) Tryz.func155 ?_;dsimp only[Tryz.f155];push_cast;refine loop (fun i:Nat=>⟨[(1,.ptr 0 0),(3,.sc (.int .i64 i))],[fsC f],0,0⟩) (fun i=>i<=f.xs.length/\∀ x∈f.xs.take i,∀ e∈x.es,zk e.ino f.xs=true) (fun i=>f.xs.length-i) 0 ⟨Wd _,fun x hx=>by simp at hx⟩ ?_ ?_
 ·exact wk
 ·rintro i ⟨h1,h2⟩;by_cases h:i<f.xs.length
  ·have g1:=jt f.xs i h;have he:=(hf.node _ (WB h)).1;have hle:(zQ f.xs[i].es).length=f.xs[i].es.length:=We ..;push_cast [hll,h];refine loop (fun k:Nat=>⟨[(1,.ptr 0 0),(3,.sc (.int .i64 i)),(4,.sc (.int .i64 k))],[fsC f],0,0⟩) (fun k=>k<=f.xs[i].es.length/\∀ e∈f.xs[i].es.take k,zk e.ino f.xs=true) (fun k=>f.xs[i].es.length-k) 0 ⟨Wd _,fun x hx=>by simp at hx⟩ ?_ ?_
   ·exact wk
   ·rintro k ⟨h3,h4⟩;by_cases hk:k<f.xs[i].es.length
    ·have g2:=JV f.xs[i].es k hk;push_cast [g1,hle,hk,g2]
     repeat refine an ?_
     refine cl (JK f f.xs[i].es[k].ino (by omega)) ?_;push_cast;cases hh:zk f.xs[i].es[k].ino f.xs with
     | true =>
      push_cast [hh]
      repeat refine an ?_
      exact ⟨k+1,⟨hk,qn hk h4 hh⟩,by omega,wk⟩
     | false =>
      have hn:¬YC f:=fun h'=>by have:=h' _ (WB h) _ (WB hk);rw[hh]at this;cases this
      push_cast [hh];exact dn (by push_cast [ze,zd,CLe,zg,hn])
    ·rw[Wg (by omega)]at h4;push_cast [g1,hle,hk]
     repeat refine an ?_
     exact ⟨i+1,⟨h,qn h h2 h4⟩,by omega,wk⟩
  ·rw[Wg (by omega)]at h2;have hn:YC f:=h2;push_cast [hll,h];exact dn (by push_cast [ze,zd,CLe,zg,hn])
theorem uY (f:FsV) (hf:FsS f) (hb:qj f.xs<=100000000):Fun Tryz.prog G 143 [.agg (fsC f),.sc (.int .i64 0),.sc (.int .i64 0)] (.sc (.bool (decide (Hh f)))) 0:=by
 have hll:(zx f.xs).length=f.xs.length:=We ..;have h40:=hf.len;refine fon Tryz.func143 ?_;dsimp only[Tryz.f143];by_cases c1:f.maxI<f.xs.length
 ·have hn:¬Hh f:=fun h=>by have:=h.1;omega
  push_cast [hll,c1]
  repeat refine an ?_
  exact dn (by push_cast [ze,zd,CLe,zg,hn])
 ·have hn:Hh f↔(qj f.xs:Int)<=f.maxB:=⟨fun h=>h.2,fun h=>⟨by omega,h⟩⟩;push_cast [hll,c1]
  repeat refine an ?_
  refine cl (zgi f hf) ?_;push_cast
  repeat refine an ?_
  exact dn (by push_cast [ze,zd,CLe,zg,hn])
end
end
section
open Go.RowKit
abbrev VG (x:zl) (es:List zO):List (Int×Int):=es.map fun e=>(e.ino,x.ino)
def qk (xs:List zl):List (Int×Int):=xs.flatMap fun x=>VG x x.es
def Q6 (n:Int) (l:List (Int×Int)):Nat:=(l.filter fun p=>p.1==n).length
def Uf (n:Int) (l:List (Int×Int)):Int:=(((l.filter fun p=>p.1==n).getLast?).map (·.2)).getD 0
theorem zmJ {p:Int×Int}:Q6 n (l++[p])=Q6 n l+if p.1=n then 1 else 0:=by
 unfold Q6;rw[O5,Wk];by_cases h:p.1=n<;>simp[h]
theorem zhU {p:Int×Int}:Uf n (l++[p])=if p.1=n then p.2 else Uf n l:=by
 unfold Uf;rw[O5];by_cases h:p.1=n<;>simp[h]
theorem zcn (h:i<xs.length):qk (xs.take (i+1))=qk (xs.take i)++VG xs[i] xs[i].es:=by
 unfold qk;rw[WV,Wa h,AO];simp
theorem zaZ {es:List zO} (h:k<es.length):VG x (es.take (k+1))=VG x (es.take k)++[(es[k].ino,x.ino)]:=by
 rw[WV,Wa h,Option.toList_some];exact Oa
theorem zff (hf:∀ x∈xs,x.es.length<=10000):(qk xs).length<=xs.length*10000:=by
 induction xs with
 | nil=>exact Wb _
 | cons x r ih =>
  have h1:=hf x Wi;have h2:=ih fun y hy=>hf y (Wl _ hy);unfold qk at h2 ⊢;rw[Al,Wk,We,Wr];omega
theorem zo4:Q6 n l<=l.length:=Ao _ _
def Vd (xs:List zl) (x:zl):Prop:=x.links=Q6 x.ino (qk xs)/\if x.ino=1 then Q6 x.ino (qk xs)=0/\x.parent=1 else 1<=Q6 x.ino (qk xs)/\(x.kind=2->Q6 x.ino (qk xs)=1/\x.parent=Uf x.ino (qk xs))
instance (xs:List zl) (x:zl):Decidable (Vd xs x):=by unfold Vd;infer_instance
def YP (f:FsV):Prop:=∀ x∈f.xs,Vd f.xs x
instance (f:FsV):Decidable (YP f):=by unfold YP;infer_instance
section
variable {G:zr}
theorem zbO (f:FsV) (n:Int) (hf:FsS f):Fun Tryz.prog G 189 [.agg (fsC f),.sc (.int .i64 n)] (.tup [.sc (.int .i64 (Q6 n (qk f.xs):Nat)),.sc (.int .i64 (Uf n (qk f.xs)))]) 0:=by
 have hll:(zx f.xs).length=f.xs.length:=We ..;have h40:=hf.len;have hc0:Q6 n (qk [])=0:=rfl;have hl0:Uf n (qk [])=0:=rfl;refine fon Tryz.func189 ?_;dsimp only[Tryz.f189];push_cast;refine loop (fun i:Nat=>⟨[(1,.sc (.int .i64 n)),(2,.ptr 0 0),(6,.sc (.int .i64 (Q6 n (qk (f.xs.take i)):Nat))),(7,.sc (.int .i64 (Uf n (qk (f.xs.take i))))),(8,.sc (.int .i64 i))],[fsC f],0,0⟩) (fun i=>i<=f.xs.length) (fun i=>f.xs.length-i) 0 (Wd _) ?_ ?_
 ·exact wk (by push_cast [ze,zd,CLe,zg,Oy,hc0,hl0])
 ·intro i h1;by_cases h:i<f.xs.length
  ·have g1:=jt f.xs i h;have hle:(zQ f.xs[i].es).length=f.xs[i].es.length:=We ..;have hpl:(qk (f.xs.take i)).length<=i*10000:=by
    have:=zff (xs:=f.xs.take i) fun x hx=>(hf.node x (Wx hx)).1;rw[W5]at this;exact WM this (WO _ (Nat.min_le_left _ _))
   have h40e:=(hf.node _ (WB h)).1;push_cast [hll,h];refine loop (fun k:Nat=>⟨[(1,.sc (.int .i64 n)),(2,.ptr 0 0),(6,.sc (.int .i64 (Q6 n (qk (f.xs.take i)++VG f.xs[i] (f.xs[i].es.take k)):Nat))),(7,.sc (.int .i64 (Uf n (qk (f.xs.take i)++VG f.xs[i] (f.xs[i].es.take k))))),(8,.sc (.int .i64 i)),(9,.sc (.int .i64 k))],[fsC f],0,0⟩) (fun k=>k<=f.xs[i].es.length) (fun k=>f.xs[i].es.length-k) 0 (Wd _) ?_ ?_
   ·exact wk (by push_cast [ze,zd,CLe,zg,Oy,W0])
   ·intro k hk0;by_cases hk:k<f.xs[i].es.length
    ·have g2:=JV f.xs[i].es k hk;have ht:=zaZ (x:=f.xs[i]) hk;have hcl:=zo4 (n:=n) (l:=qk (f.xs.take i)++VG f.xs[i] (f.xs[i].es.take k));rw[Wk,We,W5]at hcl;have hca:=zmJ (n:=n) (l:=qk (f.xs.take i)++VG f.xs[i] (f.xs[i].es.take k)) (p:=(f.xs[i].es[k].ino,f.xs[i].ino));have hla:=zhU (n:=n) (l:=qk (f.xs.take i)++VG f.xs[i] (f.xs[i].es.take k)) (p:=(f.xs[i].es[k].ino,f.xs[i].ino));rw[WE,←ht]at hca hla;by_cases hc:f.xs[i].es[k].ino=n
     ·rw[if_pos hc]at hca hla;push_cast [g1,hle,hk,g2,hc]
      repeat refine an ?_
      exact ⟨k+1,hk,by omega,wk (by push_cast [ze,zd,CLe,zg,hca,hla])⟩
     ·rw[if_neg hc]at hca hla;push_cast [g1,hle,hk,g2,hc]
      repeat refine an ?_
      exact ⟨k+1,hk,by omega,wk (by push_cast [ze,zd,CLe,zg,hca,hla])⟩
    ·have hkk:f.xs[i].es.take k=f.xs[i].es:=Wg (by omega);rw[hkk];have ht:=zcn h;push_cast [g1,hle,hk]
     repeat refine an ?_
     exact ⟨i+1,h,by omega,wk (by push_cast [ze,zd,CLe,zg,ht])⟩
  ·rw[Wg (by omega)];push_cast [hll,h];exact dn
end
end
section
open CA CB
open Go.RowKit
section
variable {G:zr}
theorem HK (f:FsV) (hf:FsS f):Fun Tryz.prog G 156 [.agg (fsC f)] (.sc (.bool (decide (YP f)))) 0:=by
 have hll:(zx f.xs).length=f.xs.length:=We ..;have h40:=hf.len;refine fon Tryz.func156 ?_;dsimp only[Tryz.f156];push_cast;refine loop (fun i:Nat=>⟨[(1,.ptr 0 0),(3,.sc (.int .i64 i))],[fsC f],0,0⟩) (fun i=>i<=f.xs.length/\∀ x∈f.xs.take i,Vd f.xs x) (fun i=>f.xs.length-i) 0 ⟨Wd _,fun x hx=>by simp at hx⟩ ?_ ?_
 ·exact wk
 ·rintro i ⟨h1,h2⟩;by_cases h:i<f.xs.length
  ·have g1:=jt f.xs i h;have hbad:¬Vd f.xs f.xs[i]->¬YP f:=fun hn h'=>hn (h' _ (WB h));have hdef:Vd f.xs f.xs[i]↔f.xs[i].links=Q6 f.xs[i].ino (qk f.xs)/\if f.xs[i].ino=1 then Q6 f.xs[i].ino (qk f.xs)=0/\f.xs[i].parent=1 else 1<=Q6 f.xs[i].ino (qk f.xs)/\(f.xs[i].kind=2->Q6 f.xs[i].ino (qk f.xs)=1/\f.xs[i].parent=Uf f.xs[i].ino (qk f.xs)):=Iff.rfl;push_cast [hll,h,g1]
   repeat refine an ?_
   refine cl (zbO f f.xs[i].ino hf) ?_;push_cast;generalize Q6 f.xs[i].ino (qk f.xs)=c at hdef;generalize Uf f.xs[i].ino (qk f.xs)=d at hdef;by_cases c1:f.xs[i].links=(c:Int)
   case neg =>
    have hn:=hbad fun h=>c1 (hdef.1 h).1;push_cast [c1];exact dn (by push_cast [ze,zd,CLe,zg,hn])
   by_cases c2:f.xs[i].ino=1
   ·rw[if_pos c2]at hdef;by_cases c3:(c:Int)=0
    ·by_cases c4:f.xs[i].parent=1
     ·push_cast [c1,c2,c3,c4]
      repeat refine an ?_
      exact ⟨i+1,⟨h,qn h h2 (hdef.2 ⟨c1,by omega,c4⟩)⟩,by omega,wk⟩
     ·have hn:=hbad fun h=>c4 (hdef.1 h).2.2;push_cast [c1,c2,c3,c4];exact dn (by push_cast [ze,zd,CLe,zg,hn])
    ·have hn:=hbad fun h=>by have:=(hdef.1 h).2.1;omega
     push_cast [c1,c2,c3];exact dn (by push_cast [ze,zd,CLe,zg,hn])
   ·rw[if_neg c2]at hdef;by_cases c3:(c:Int)<1
    ·have hn:=hbad fun h=>by have:=(hdef.1 h).2.1;omega
     push_cast [c1,c2,c3];exact dn (by push_cast [ze,zd,CLe,zg,hn])
    by_cases c4:f.xs[i].kind=2
    ·by_cases c5:(c:Int)=1
     ·by_cases c6:f.xs[i].parent=d
      ·push_cast [c1,c2,c3,c4,c5,c6]
       repeat refine an ?_
       exact ⟨i+1,⟨h,qn h h2 (hdef.2 ⟨c1,by omega,fun _=>⟨by omega,c6⟩⟩)⟩,by omega,wk⟩
      ·have hn:=hbad fun h=>c6 ((hdef.1 h).2.2 c4).2;push_cast [c1,c2,c3,c4,c5,c6];exact dn (by push_cast [ze,zd,CLe,zg,hn])
     ·have hn:=hbad fun h=>by have:=((hdef.1 h).2.2 c4).1;omega
      push_cast [c1,c2,c3,c4,c5];exact dn (by push_cast [ze,zd,CLe,zg,hn])
    ·push_cast [c1,c2,c3,c4]
     repeat refine an ?_
     exact ⟨i+1,⟨h,qn h h2 (hdef.2 ⟨c1,by omega,fun h=>absurd h c4⟩)⟩,by omega,wk⟩
  ·rw[Wg (by omega)]at h2;have hn:YP f:=h2;push_cast [hll,h];exact dn (by push_cast [ze,zd,CLe,zg,hn])
end
end
section
open CA CB
open Go.RowKit
abbrev zaN (S:List Int):List (List C):=S.map fun n=>[C.sc (.int .i64 n)]
def YG (S:List Int) (n:Int):List Int:=if n∈S then S else S++[n]
def kZ (S:List Int) (es:List zO):List Int:=es.foldl (fun s e=>YG s e.ino) S
def QT (xs:List zl):Nat->Nat->List Int->List Int
 | 0,_,S=>S
 | m+1,i,S=>match S[i]? with
  | some n=>QT xs m (i+1) (kZ S (zf n xs).es)
  | none=>S
def QK (f:FsV):Prop:=(QT f.xs (f.xs.length+1) 0 [1]).length=f.xs.length
instance (f:FsV):Decidable (QK f):=by unfold QK;infer_instance
theorem Uq:∀ {S T:List Int},S.Nodup->(∀ n∈S,n∈T)->S.length<=T.length
 | [],T,_,_=>Wd _
 | a :: r,T,hn,hs=>by
  have ha:=hs a Wi;obtain ⟨h1,h2⟩:=OP.1 hn;have:=Uq (S:=r) (T:=T.erase a) h2 fun n hr=>(List.mem_erase_of_ne (fun e=>h1 (by rw[←e];exact hr))).2 (hs n (Wl _ hr));rw[List.length_erase_of_mem ha]at this;have hpos:=WG.2 (List.ne_nil_of_mem ha);rw[Wr];omega
theorem Np:zk n xs=true↔n∈xs.map (·.ino):=by
 unfold zk;rw[Ou,WP];simp
theorem Z3 (hn:S.Nodup) (hs:∀ n∈S,zk n xs=true):S.length<=xs.length:=by
 have:=Uq (T:=xs.map (·.ino)) hn fun n h=>Np.1 (hs n h);rwa [We]at this
theorem ME (h:S.Nodup):(YG S n).Nodup:=by
 unfold YG;split
 ·exact h
 ·rw[Ac];refine ⟨h,by simp,fun a ha b hb e=>?_⟩;simp at hb;subst hb;subst e;contradiction
theorem Hs {m:Int}:m∈YG S n↔m∈S∨m=n:=by
 unfold YG;split
 ·constructor
  ·exact .inl
  ·rintro (h | h)
   ·exact h
   ·rw[h];assumption
 ·simp
theorem qO (h:zk n xs=true):zf n xs∈xs/\(zf n xs).ino=n:=by
 unfold zk at h;unfold zf Xc;cases hq:xs.find? fun x=>x.ino==n with
 | none =>
  rw[Bb]at hq;obtain ⟨x,hx,he⟩:=Ou.1 h;exact absurd he (hq x hx)
 | some y =>
  exact ⟨Bi hq,by simpa using List.find?_some hq⟩
theorem zfb {es:List zO} (h:k<es.length):kZ S (es.take (k+1))=YG (kZ S (es.take k)) es[k].ino:=by
 unfold kZ;rw[WV,Wa h,List.foldl_append]
 rfl
theorem zjL (es:List zO):∀ (S:List Int),S <+: kZ S es:=by
 induction es with
 | nil=>exact fun S=>List.prefix_refl S
 | cons e r ih =>
  intro S;refine List.IsPrefix.trans ?_ (ih (YG S e.ino));unfold YG;split
  ·exact List.prefix_refl S
  ·exact List.prefix_append S _
theorem zhV (S:List Int) (es:List zO):S.length<=(kZ S es).length:=(zjL es S).length_le
structure YD (xs:List zl) (S:List Int):Prop where
 nodup:S.Nodup
 has:∀ n∈S,zk n xs=true
theorem YD.len (h:YD xs S):S.length<=xs.length:=Z3 h.nodup h.has
theorem YD.one (h:YD xs S) (hn:zk n xs=true):YD xs (YG S n):=⟨ME h.nodup,fun m hm=>by
 rcases Hs.1 hm with hm | rfl
 ·exact h.has m hm
 ·exact hn⟩
theorem zgL {j:Nat} (h:j<S.length):((S.take (j+1)).any fun m=>decide (m=n))=(((S.take j).any fun m=>decide (m=n))||decide (S[j]=n)):=by
 rw[WV,Wa h,BH];simp
theorem zl8:(S.any fun m=>decide (m=n))=decide (n∈S):=by
 rw[Bool.eq_iff_iff,Ou,decide_eq_true_iff];constructor
 ·rintro ⟨m,hm,h⟩;exact (WN h)▸hm
 ·exact fun h=>⟨n,h,Wn rfl⟩
theorem zat (S:List Int) (i:Nat) (h:i<S.length):(zaN S)[i]?=some [.sc (.int .i64 S[i])]:=by simp[Wv,Wa h]
section
variable {G:zr}
theorem NY (f:FsV) (hf:FsS f) (h3:YC f) (h1:zk 1 f.xs=true):Fun Tryz.prog G 157 [.agg (fsC f)] (.sc (.bool (decide (QK f)))) 0:=by
 have hll:(zx f.xs).length=f.xs.length:=We ..;have h40:=hf.len;refine fof (fun i=>if i=5 then j9 9 10 else []) Tryz.func157 ?_;dsimp only[Tryz.f157];push_cast;refine loop (fun p:Nat×List Int=>⟨[(1,.ptr 0 0),(3,.own 0 3 1 (zaN p.2)),(4,.sc (.int .i64 p.1))],[fsC f],1,0⟩) (fun p=>p.1<=p.2.length/\YD f.xs p.2/\QT f.xs (f.xs.length+1-p.1) p.1 p.2=QT f.xs (f.xs.length+1) 0 [1]) (fun p=>f.xs.length+1-p.1) (0,[1]) ⟨Wd _,⟨by simp,fun n hn=>by simp at hn;subst hn;exact h1⟩,rfl⟩ ?_ ?_
 ·exact wks [.inl 0]
 ·rintro ⟨i,S⟩ ⟨k1,k2,k3⟩;dsimp only at k1 k2 k3 ⊢;have hSl:=k2.len;have hli:(zaN S).length=S.length:=We ..;by_cases h:i<S.length
  ·have g0:=zat S i h;obtain ⟨hm,hino⟩:=qO (k2.has S[i] (WB h));push_cast [hli,h,g0]
   repeat refine an ?_
   refine cl (JK f S[i] (by omega)) ?_;push_cast;rw[show f.xs.length+1-i=(f.xs.length+1-(i+1))+1 by omega,QT,Wa h]at k3;dsimp only at k3;generalize zf S[i] f.xs=x at hm hino k3;have hx40:=(hf.node x hm).1;have hle:(zQ x.es).length=x.es.length:=We ..;refine loop (fun k:Nat=>⟨[(1,.ptr 0 0),(3,.own 0 3 1 (zaN (kZ S (x.es.take k)))),(4,.sc (.int .i64 i)),(5,.ptr 1 0),(7,.sc (.int .i64 k))],[fsC f,Yf x],1,0⟩) (fun k=>k<=x.es.length/\YD f.xs (kZ S (x.es.take k))) (fun k=>x.es.length-k) 0 ⟨Wd _,k2⟩ ?_ ?_
   ·exact wks [.inl 0] (by push_cast [ze,zd,CLe,zg,Oy,kZ,BS])
   ·rintro k ⟨hk0,k4⟩;by_cases hk:k<x.es.length
    ·have g2:=JV x.es k hk;have hT:=k4.len;have ht:=zfb (S:=S) hk;have hhas:zk x.es[k].ino f.xs=true:=h3 x hm _ (WB hk);have k5:=k4.one hhas;rw[←ht]at k5;generalize hT1:kZ S (x.es.take (k+1))=T1 at ht k5;generalize kZ S (x.es.take k)=T at k4 hT ht;have hlT:(zaN T).length=T.length:=We ..;generalize hn:x.es[k].ino=n at g2 ht;push_cast [hle,hk];refine loop (fun j:Nat=>⟨[(1,.ptr 0 0),(3,.own 0 3 1 (zaN T)),(4,.sc (.int .i64 i)),(5,.ptr 1 0),(7,.sc (.int .i64 k)),(8,.sc (.bool ((T.take j).any fun m=>decide (m=n)))),(9,.sc (.int .i64 j))],[fsC f,Yf x],1,0⟩) (fun j=>j<=T.length) (fun j=>T.length-j) 0 (Wd _) ?_ ?_
     ·exact wks [.inl 0] (by push_cast [ze,zd,CLe,zg,Oy,BO])
     ·intro j hj0;by_cases hj:j<T.length
      ·have g3:=zat T j hj;have ha:=zgL (n:=n) hj;by_cases hq:((T.take j).any fun m=>decide (m=n))=true
       ·rw[hq,BP]at ha;push_cast [hlT,hj,hq]
        repeat refine an ?_
        exact ⟨j+1,hj,by omega,wks [.inl 0] (by push_cast [ze,zd,CLe,zg,ha])⟩
       ·have hq:=Ok.2 hq;rw[hq,O0]at ha;push_cast [hlT,hj,hq,g3,g2,hn]
        repeat refine an ?_
        exact ⟨j+1,hj,by omega,wks [.inl 0] (by push_cast [ze,zd,CLe,zg,ha])⟩
      ·have hTj:(T.take j)=T:=Wg (by omega);have hany:=zl8 (S:=T) (n:=n);unfold YG at ht;by_cases hin:n∈T
       ·rw[if_pos hin]at ht;rw[Wn hin]at hany;push_cast [hlT,hj,hTj,hany]
        repeat refine an ?_
        exact ⟨k+1,⟨hk,by rw[hT1];exact k5⟩,by omega,wks [.inl 0] (by push_cast [ze,zd,CLe,zg,hT1,ht])⟩
       ·rw[if_neg hin]at ht;rw[Wj hin]at hany;push_cast [hlT,hj,hTj,hany,g2,hn]
        repeat refine an ?_
        exact ⟨k+1,⟨hk,by rw[hT1];exact k5⟩,by omega,wks [.inl 0] (by push_cast [ze,zd,CLe,zg,hT1,ht,Oa])⟩
    ·have hkk:x.es.take k=x.es:=Wg (by omega);rw[hkk]at k4;have hge:i+1<=(kZ S x.es).length:=WM h (zhV S x.es);push_cast [hle,hk,hkk]
     repeat refine an ?_
     exact ⟨(i+1,kZ S x.es),⟨hge,k4,k3⟩,by dsimp only;omega,wks [.inl 0]⟩
  ·push_cast [hli,h];have hfin:QT f.xs (f.xs.length+1-i) i S=S:=by
    rw[show f.xs.length+1-i=(f.xs.length-i)+1 by omega,QT,WX (by omega)]
   rw[hfin]at k3;have hn:QK f↔S.length=f.xs.length:=by unfold QK;rw[←k3]
   exact dn (by push_cast [ze,zd,CLe,zg,hn,hll])
end
end
section
open CA CB
open Go.RowKit
def Y6 (es:List zO):Prop:=∀ i (h:i<es.length),may es[i].name=true/\1<=es[i].ino/\(0<i->Op.bytesLess es[i-1].name es[i].name=true)
instance (es:List zO):Decidable (Y6 es):=by unfold Y6;infer_instance
def YN (x:zl):Prop:=(x.kind=1∨x.kind=2∨x.kind=3)/\(x.kind≠2->x.es = []/\x.parent=0)/\(x.kind=2->x.data = []/\Y6 x.es)/\(x.kind=3->1<=x.data.length/\x.data.length<=4095/\∀ b∈x.data,b≠0)
instance (x:zl):Decidable (YN x):=by unfold YN;infer_instance
def YQ (f:FsV):Prop:=∀ x∈f.xs,YN x
instance (f:FsV):Decidable (YQ f):=by unfold YQ;infer_instance
def Jy (f:FsV):Int:=if Jx f then if YQ f then if YC f then if YP f then if QK f then if Hh f then 0 else 6 else 5 else 4 else 3 else 2 else 1
def okV (f:FsV):Prop:=k8 f.xs/\Jy f=0
instance (f:FsV):Decidable (okV f):=by unfold okV;infer_instance
theorem zd2 (es:List zO) (hl:es.length<=100000) (hn:∀ e∈es,e.name.length<=1000000):Fun Tryz.prog G0 188 [.sl 2 (zQ es)] (qZ (decide (Y6 es))) 0:=by
 have hle:(zQ es).length=es.length:=We ..;refine fon Tryz.func188 ?_;dsimp only[Tryz.f188];push_cast;refine loop (fun i:Nat=>⟨[(0,.sl 2 (zQ es)),(3,.sc (.int .i64 i))],[],0,0⟩) (fun i=>i<=es.length/\∀ j (h:j<es.length),j<i->may es[j].name=true/\1<=es[j].ino/\(0<j->Op.bytesLess es[j-1].name es[j].name=true)) (fun i=>es.length-i) 0 ⟨Wd _,fun j h h'=>absurd h' (OD _)⟩ ?_ ?_
 ·exact wk
 ·rintro i ⟨h1,h2⟩;by_cases h:i<es.length
  ·have g1:=JV es i h;have hm:=HA es[i].name (by have:=hn _ (WB h);omega);push_cast [hle,h,g1]
   repeat refine an ?_
   cases c1:may es[i].name with
   | false =>
    have hno:¬Y6 es:=fun hr=>by have:=(hr i h).1;rw[c1]at this;cases this
    refine cl hm ?_;push_cast [c1];exact dn (by push_cast [ze,zd,CLe,zg,hno])
   | true =>
    by_cases c2:es[i].ino<1
    ·have hno:¬Y6 es:=fun hr=>by have:=(hr i h).2.1;omega
     refine cl hm ?_;push_cast [c1,g1,c2]
     repeat refine an ?_
     exact dn (by push_cast [ze,zd,CLe,zg,hno])
    ·have step:(0<i->Op.bytesLess es[i-1].name es[i].name=true)->∀ j (h:j<es.length),j<i+1->may es[j].name=true/\1<=es[j].ino/\(0<j->Op.bytesLess es[j-1].name es[j].name=true):=fun hb j hj hlt=>by
      rcases Wq j i with q | q
      ·exact h2 j hj q
      ·have:j=i:=by omega
       subst this;exact ⟨c1,by omega,hb⟩
     by_cases c3:0<i
     ·have g2:=JV es (i-1) (by omega);have e1:(i:Int)-1=((i-1:Nat):Int):=by omega
      cases c4:Op.bytesLess es[i-1].name es[i].name with
      | true =>
       refine cl hm ?_;push_cast [c1,g1,c2]
       repeat refine an ?_
       push_cast [c3,e1,g2,g1,c4]
       repeat refine an ?_
       exact ⟨i+1,⟨h,step fun _=>c4⟩,by omega,wk⟩
      | false =>
       have hno:¬Y6 es:=fun hr=>by have:=(hr i h).2.2 c3;rw[c4]at this;cases this
       refine cl hm ?_;push_cast [c1,g1,c2]
       repeat refine an ?_
       push_cast [c3,e1,g2,g1,c4]
       repeat refine an ?_
       exact dn (by push_cast [ze,zd,CLe,zg,hno])
     ·refine cl hm ?_;push_cast [c1,g1,c2]
      repeat refine an ?_
      push_cast [c3]
      repeat refine an ?_
      exact ⟨i+1,⟨h,step fun h=>absurd h c3⟩,by omega,wk⟩
  ·have hr:Y6 es:=fun j hj=>h2 j hj (by omega);push_cast [hle,h];exact dn (by push_cast [ze,zd,CLe,zg,hr])
end
section
open CA CB
open Go.RowKit
theorem HB (f:FsV) (hf:FsS f):Fun Tryz.prog G0 154 [.agg (fsC f)] (qZ (decide (YQ f))) 0:=by
 have hll:(zx f.xs).length=f.xs.length:=We ..;have h40:=hf.len;refine fon Tryz.func154 ?_;dsimp only[Tryz.f154];push_cast;refine loop (fun i:Nat=>⟨[(1,.ptr 0 0),(3,.sc (.int .i64 i))],[fsC f],0,0⟩) (fun i=>i<=f.xs.length/\∀ x∈f.xs.take i,YN x) (fun i=>f.xs.length-i) 0 ⟨Wd _,fun x hx=>by simp at hx⟩ ?_ ?_
 ·exact wk
 ·rintro i ⟨h1,h2⟩;by_cases h:i<f.xs.length
  case neg =>
   rw[Wg (by omega)]at h2;have hn:YQ f:=h2;push_cast [hll,h];exact dn (by push_cast [ze,zd,CLe,zg,hn])
  have g1:=jt f.xs i h;have hbad:¬YN f.xs[i]->¬YQ f:=fun hn h'=>hn (h' _ (WB h));have hs:=hf.node _ (WB h);have step:YN f.xs[i]->∀ x∈f.xs.take (i+1),YN x:=fun hq=>qn h h2 hq;push_cast [hll,h,g1]
  repeat refine an ?_
  generalize f.xs[i]=x at g1 hbad hs step;have hle:(zQ x.es).length=x.es.length:=We ..;have hent:x.es.length<=10000:=hs.1;by_cases k2:x.kind=2
  ·by_cases d0:x.data = []
   ·have hr:=zd2 x.es (by omega) fun e he=>by have:=hs.2.2 e he;omega
    cases c1:decide (Y6 x.es) with
    | false =>
     have hn:=hbad fun hq=>OK c1 (hq.2.2.1 k2).2;push_cast [k2,d0];refine cl hr ?_;push_cast [c1];exact dn (by push_cast [ze,zd,CLe,zg,hn])
    | true =>
     have hq:YN x:=⟨.inr (.inl k2),fun h=>absurd k2 h,fun _=>⟨d0,WN c1⟩,fun h=>by omega⟩;push_cast [k2,d0];refine cl hr ?_;push_cast [c1,k2];refine loop (fun j:Nat=>⟨[(1,.ptr 0 0),(3,.sc (.int .i64 i)),(4,.ptr 1 0),(5,.sc (.int .i64 j))],[fsC f,Yf x],0,0⟩) (fun j=>j=0) (fun j=>0) 0 rfl ?_ ?_
     ·exact wk (by push_cast [ze,zd,CLe,zg,k2,d0]) (by push_cast [ze,zd,CLe,zg,k2,d0])
     ·rintro j rfl;push_cast [d0]
      repeat refine an ?_
      exact ⟨i+1,⟨h,step hq⟩,by omega,wk⟩
   ·have hn:=hbad fun hq=>d0 (hq.2.2.1 k2).1;push_cast [k2,d0];exact dn (by push_cast [ze,zd,CLe,zg,hn])
  by_cases e0:x.es = []
  case neg =>
   have hn:=hbad fun hq=>e0 (hq.2.1 k2).1;have hpos:0<(x.es.length:Int):=by have:=WG.2 e0;omega
   by_cases k1:x.kind=1
   ·push_cast [k1,hle,hpos];exact dn (by push_cast [ze,zd,CLe,zg,hn])
   ·by_cases k3:x.kind=3
    ·push_cast [k1,k2,k3,hle,hpos];exact dn (by push_cast [ze,zd,CLe,zg,hn])
    ·have hn:=hbad fun hq=>by rcases hq.1 with q | q | q<;>contradiction
     push_cast [k1,k2,k3];exact dn (by push_cast [ze,zd,CLe,zg,hn])
  have hl0:x.es.length=0:=by rw[e0];rfl
  by_cases p0:x.parent=0
  case neg =>
   have hn:=hbad fun hq=>p0 (hq.2.1 k2).2;by_cases k1:x.kind=1
   ·push_cast [k1,hle,hl0,p0];exact dn (by push_cast [ze,zd,CLe,zg,hn])
   ·by_cases k3:x.kind=3
    ·push_cast [k1,k2,k3,hle,hl0,p0];exact dn (by push_cast [ze,zd,CLe,zg,hn])
    ·have hn:=hbad fun hq=>by rcases hq.1 with q | q | q<;>contradiction
     push_cast [k1,k2,k3];exact dn (by push_cast [ze,zd,CLe,zg,hn])
  by_cases k1:x.kind=1
  ·have hq:YN x:=⟨.inl k1,fun _=>⟨e0,p0⟩,fun h=>absurd h k2,fun h=>by omega⟩;push_cast [k1,hle,hl0,p0];refine loop (fun j:Nat=>⟨[(1,.ptr 0 0),(3,.sc (.int .i64 i)),(4,.ptr 1 0),(5,.sc (.int .i64 j))],[fsC f,Yf x],0,0⟩) (fun j=>j=0) (fun j=>0) 0 rfl ?_ ?_
   ·exact wk (by push_cast [ze,zd,CLe,zg,k1,p0]) (by push_cast [ze,zd,CLe,zg,k1,p0])
   ·rintro j rfl;by_cases hd:(0:Int)<x.data.length
    ·push_cast [hd,k1]
     repeat refine an ?_
     exact ⟨i+1,⟨h,step hq⟩,by omega,wk⟩
    ·push_cast [hd,k1]
     repeat refine an ?_
     exact ⟨i+1,⟨h,step hq⟩,by omega,wk⟩
  by_cases k3:x.kind=3
  case neg =>
   have hn:=hbad fun hq=>by rcases hq.1 with q | q | q<;>contradiction
   push_cast [k1,k2,k3];exact dn (by push_cast [ze,zd,CLe,zg,hn])
  by_cases l1:(x.data.length:Int)<1
  ·have hn:=hbad fun hq=>by have:=(hq.2.2.2 k3).1;omega
   push_cast [k1,k2,k3,hle,hl0,p0,l1];exact dn (by push_cast [ze,zd,CLe,zg,hn])
  by_cases l2:4095<(x.data.length:Int)
  ·have hn:=hbad fun hq=>by have:=(hq.2.2.2 k3).2.1;omega
   push_cast [k1,k2,k3,hle,hl0,p0,l1,l2];exact dn (by push_cast [ze,zd,CLe,zg,hn])
  push_cast [k1,k2,k3,hle,hl0,p0,l1,l2];refine loop (fun j:Nat=>⟨[(1,.ptr 0 0),(3,.sc (.int .i64 i)),(4,.ptr 1 0),(5,.sc (.int .i64 j))],[fsC f,Yf x],0,0⟩) (fun j=>j<=x.data.length/\∀ b∈x.data.take j,b≠0) (fun j=>x.data.length-j) 0 ⟨Wd _,fun b hb=>by simp at hb⟩ ?_ ?_
  ·exact wk (by push_cast [ze,zd,CLe,zg,k3,p0]) (by push_cast [ze,zd,CLe,zg,k3,p0])
  ·rintro j ⟨j1,j2⟩;by_cases hj:j<x.data.length
   ·have hb:x.data[j]?=some x.data[j]:=Wa hj;by_cases z:(x.data[j].toNat:Int)=0
    ·have hn:=hbad fun hq=>(hq.2.2.2 k3).2.2 _ (WB hj) (Bc.1 (by simpa using z));push_cast [hj,k3,hb,z]
     repeat refine an ?_
     exact dn (by push_cast [ze,zd,CLe,zg,hn])
    ·push_cast [hj,k3,hb,z]
     repeat refine an ?_
     exact ⟨j+1,⟨hj,qn hj j2 fun hz=>z (by rw[hz];rfl)⟩,by omega,wk⟩
   ·rw[Wg (by omega)]at j2;have hq:YN x:=⟨.inr (.inr k3),fun _=>⟨e0,p0⟩,fun h=>absurd h k2,fun _=>⟨by omega,by omega,j2⟩⟩;push_cast [hj,k3]
    repeat refine an ?_
    exact ⟨i+1,⟨h,step hq⟩,by omega,wk⟩
theorem zeW (f:FsV) (hf:FsS f):Fun Tryz.prog G0 107 [.agg (fsC f)] (.sc (.int .i64 (Jy f))) 0:=by
 have h40:=hf.len;have hb:qj f.xs<=100000000:=by have:=hf.bytes;omega
 refine fon Tryz.func107 ?_;dsimp only[Tryz.f107];push_cast;by_cases c1:Jx f
 case neg =>
  refine cl (xA f (by omega)) ?_;push_cast [Wj c1];exact dn (by push_cast [ze,zd,CLe,zg,Jy,c1])
 refine cl (xA f (by omega)) ?_;push_cast [Wn c1];by_cases c2:YQ f
 case neg =>
  refine cl (HB f hf) ?_;push_cast [Wj c2];exact dn (by push_cast [ze,zd,CLe,zg,Jy,c1,c2])
 refine cl (HB f hf) ?_;push_cast [Wn c2];by_cases c3:YC f
 case neg =>
  refine cl (NQ f hf) ?_;push_cast [Wj c3];exact dn (by push_cast [ze,zd,CLe,zg,Jy,c1,c2,c3])
 refine cl (NQ f hf) ?_;push_cast [Wn c3];by_cases c4:YP f
 case neg =>
  refine cl (HK f hf) ?_;push_cast [Wj c4];exact dn (by push_cast [ze,zd,CLe,zg,Jy,c1,c2,c3,c4])
 refine cl (HK f hf) ?_;push_cast [Wn c4];by_cases c5:QK f
 case neg =>
  refine cl (NY f hf c3 c1.2.2.2.2.2.2.2.1) ?_;push_cast [Wj c5];exact dn (by push_cast [ze,zd,CLe,zg,Jy,c1,c2,c3,c4,c5])
 refine cl (NY f hf c3 c1.2.2.2.2.2.2.2.1) ?_;push_cast [Wn c5];by_cases c6:Hh f
 case neg =>
  refine cl (uY f hf hb) ?_;push_cast [Wj c6];exact dn (by push_cast [ze,zd,CLe,zg,Jy,c1,c2,c3,c4,c5,c6])
 refine cl (uY f hf hb) ?_;push_cast [Wn c6];exact dn (by push_cast [ze,zd,CLe,zg,Jy,c1,c2,c3,c4,c5,c6])
end
section
open CA CB
open Go.RowKit
def jF (x:zl) (k:zW):Bool:=decide (k.ino=x.ino)&&!k.content
def qC (w:qN) (x:zl):Prop:=zk x.ino w.fs.xs=false/\1<=x.ino/\x.ino<w.fs.next/\x.links=0/\x.parent=0/\x.es = []/\(x.kind=1∨x.kind=2∨x.kind=3)/\(x.kind=2->x.data = [])/\(x.kind=3->1<=x.data.length/\x.data.length<=4095/\∀ b∈x.data,b≠0)/\w.kept.any (jF x)=true
instance (w:qN) (x:zl):Decidable (qC w x):=by unfold qC;infer_instance
theorem zqB {α:Type} {P:α->Bool} {l:List α} (h:k<l.length):(l.take (k+1)).any P=((l.take k).any P||P l[k]):=by
 rw[WV,Wa h,BH];simp
theorem zcC (w:qN) (x:zl) (hl:w.fs.xs.length<=100000) (hk:w.kept.length<=100000) (he:x.es.length<=100000) (hd:x.data.length<=100000):Fun Tryz.prog G0 109 [Q7 w,.agg (Yf x)] (qZ (decide (qC w x))) 0:=by
 have hg:=JK (G:=G0) w.fs x.ino hl;have hkl:(zJ w.kept).length=w.kept.length:=We ..;have hle:(zQ x.es).length=x.es.length:=We ..;by_cases c1:zk x.ino w.fs.xs=true
 ·have hn:¬qC w x:=fun h=>by have:=h.1;rw[c1]at this;cases this
  rw[c1]at hg;refine fon Tryz.func109 ?_;dsimp only[Tryz.f109];push_cast;refine cl hg ?_;push_cast;exact dn (by push_cast [ze,zd,CLe,zg,hn])
 have c1:=Ok.2 c1;rw[c1]at hg;by_cases c2:x.ino<1
 case pos =>
  have hn:¬qC w x:=fun h=>by have:=h.2.1;omega
  refine fon Tryz.func109 ?_;dsimp only[Tryz.f109];push_cast;refine cl hg ?_;push_cast [hle,c2];exact dn (by push_cast [ze,zd,CLe,zg,hn])
 by_cases c3:w.fs.next<=x.ino
 case pos =>
  have hn:¬qC w x:=fun h=>by have:=h.2.2.1;omega
  refine fon Tryz.func109 ?_;dsimp only[Tryz.f109];push_cast;refine cl hg ?_;push_cast [hle,c2,c3];exact dn (by push_cast [ze,zd,CLe,zg,hn])
 by_cases c4:x.links=0
 case neg =>
  have hn:¬qC w x:=fun h=>c4 h.2.2.2.1;refine fon Tryz.func109 ?_;dsimp only[Tryz.f109];push_cast;refine cl hg ?_;push_cast [hle,c2,c3,c4];exact dn (by push_cast [ze,zd,CLe,zg,hn])
 by_cases c5:x.parent=0
 case neg =>
  have hn:¬qC w x:=fun h=>c5 h.2.2.2.2.1;refine fon Tryz.func109 ?_;dsimp only[Tryz.f109];push_cast;refine cl hg ?_;push_cast [hle,c2,c3,c4,c5];exact dn (by push_cast [ze,zd,CLe,zg,hn])
 by_cases c6:(x.es.length:Int)=0
 case neg =>
  have hn:¬qC w x:=fun h=>c6 (by rw[h.2.2.2.2.2.1];rfl);refine fon Tryz.func109 ?_;dsimp only[Tryz.f109];push_cast;refine cl hg ?_;push_cast [hle,c2,c3,c4,c5,c6];exact dn (by push_cast [ze,zd,CLe,zg,hn])
 by_cases c7:x.kind<1
 case pos =>
  have hn:¬qC w x:=fun h=>by have:=h.2.2.2.2.2.2.1;omega
  refine fon Tryz.func109 ?_;dsimp only[Tryz.f109];push_cast;refine cl hg ?_;push_cast [hle,c2,c3,c4,c5,c6,c7];exact dn (by push_cast [ze,zd,CLe,zg,hn])
 by_cases c8:3<x.kind
 case pos =>
  have hn:¬qC w x:=fun h=>by have:=h.2.2.2.2.2.2.1;omega
  refine fon Tryz.func109 ?_;dsimp only[Tryz.f109];push_cast;refine cl hg ?_;push_cast [hle,c2,c3,c4,c5,c6,c7,c8];exact dn (by push_cast [ze,zd,CLe,zg,hn])
 have hes:x.es = []:=WZ (by omega);have hkd:x.kind=1∨x.kind=2∨x.kind=3:=by omega
 have key:(x.kind=2->x.data = [])->(x.kind=3->1<=x.data.length/\x.data.length<=4095/\∀ b∈x.data,b≠0)->decide (qC w x)=w.kept.any (jF x):=fun q1 q2=>by
  cases hn:w.kept.any (jF x) with
  | true=>exact Wn ⟨c1,by omega,by omega,c4,c5,hes,hkd,q1,q2,hn⟩
  | false=>exact Wj fun h=>by have:=h.2.2.2.2.2.2.2.2.2;rw[hn]at this;cases this
 by_cases k2:x.kind=2
 ·by_cases d0:x.data = []
  ·have hdl:((0:Int)<x.data.length)=False:=WH (by rw[d0];simp);refine fon Tryz.func109 ?_;dsimp only[Tryz.f109];push_cast;refine cl hg ?_;push_cast [hle,c2,c3,c4,c5,c6,c7,c8,k2,d0,hdl];refine loop (fun j:Nat=>⟨[(2,.ptr 0 0),(3,.ptr 1 0),(7,.sc (.int .i64 j))],[Nw w,Yf x],0,0⟩) (fun j=>j=0) (fun j=>0) 0 rfl ?_ ?_
   ·exact wk (h5:=by push_cast [ze,zd,CLe,zg,k2,d0,c4,c5])
   ·rintro j rfl;push_cast [hdl,d0];refine loop (fun i:Nat=>⟨[(2,.ptr 0 0),(3,.ptr 1 0),(8,.sc (.bool ((w.kept.take i).any (jF x)))),(9,.sc (.int .i64 i))],[Nw w,Yf x],0,0⟩) (fun i=>i<=w.kept.length) (fun i=>w.kept.length-i) 0 (Wd _) ?_ ?_
    ·exact wk (by push_cast [ze,zd,CLe,zg,Oy,BO])
    ·intro i hi;by_cases h:i<w.kept.length
     ·have g:=JG w.kept i h;have ha:=zqB (P:=jF x) h;have hp:jF x w.kept[i]=(decide (w.kept[i].ino=x.ino)&&!w.kept[i].content):=rfl;by_cases hn:((w.kept.take i).any (jF x))=true
      ·rw[hn,BP]at ha;push_cast [hkl,h,hn]
       repeat refine an ?_
       exact ⟨i+1,h,by omega,wk (by push_cast [ze,zd,CLe,zg,ha])⟩
      ·have hn:=Ok.2 hn;rw[hn,O0,hp]at ha;by_cases he:w.kept[i].ino=x.ino
       ·rw[Wn he,Or]at ha;push_cast [hkl,h,hn,g,he]
        repeat refine an ?_
        exact ⟨i+1,h,by omega,wk (by push_cast [ze,zd,CLe,zg,ha])⟩
       ·rw[Wj he,W8]at ha;push_cast [hkl,h,hn,g,he]
        repeat refine an ?_
        exact ⟨i+1,h,by omega,wk (by push_cast [ze,zd,CLe,zg,ha])⟩
     ·rw[Wg (by omega)];have hd:decide (qC w x)=w.kept.any (jF x):=key (fun _=>d0) (fun h=>by omega);push_cast [hkl,h];exact dn (by push_cast [ze,zd,CLe,zg,hd])
  ·have hn:¬qC w x:=fun h=>d0 (h.2.2.2.2.2.2.2.1 k2);refine fon Tryz.func109 ?_;dsimp only[Tryz.f109];push_cast;refine cl hg ?_;push_cast [hle,c2,c3,c4,c5,c6,c7,c8,k2,d0];exact dn (by push_cast [ze,zd,CLe,zg,hn])
 by_cases k3:x.kind=3
 ·by_cases l1:(x.data.length:Int)<1
  ·have hn:¬qC w x:=fun h=>by have:=(h.2.2.2.2.2.2.2.2.1 k3).1;omega
   refine fon Tryz.func109 ?_;dsimp only[Tryz.f109];push_cast;refine cl hg ?_;push_cast [hle,c2,c3,c4,c5,c6,c7,c8,k2,k3,l1];exact dn (by push_cast [ze,zd,CLe,zg,hn])
  by_cases l2:4095<(x.data.length:Int)
  ·have hn:¬qC w x:=fun h=>by have:=(h.2.2.2.2.2.2.2.2.1 k3).2.1;omega
   refine fon Tryz.func109 ?_;dsimp only[Tryz.f109];push_cast;refine cl hg ?_;push_cast [hle,c2,c3,c4,c5,c6,c7,c8,k2,k3,l1,l2];exact dn (by push_cast [ze,zd,CLe,zg,hn])
  refine fon Tryz.func109 ?_;dsimp only[Tryz.f109];push_cast;refine cl hg ?_;push_cast [hle,c2,c3,c4,c5,c6,c7,c8,k2,k3,l1,l2];refine loop (fun j:Nat=>⟨[(2,.ptr 0 0),(3,.ptr 1 0),(7,.sc (.int .i64 j))],[Nw w,Yf x],0,0⟩) (fun j=>j<=x.data.length/\∀ b∈x.data.take j,b≠0) (fun j=>x.data.length-j) 0 ⟨Wd _,fun b hb=>by simp at hb⟩ ?_ ?_
  ·exact wk (h5:=by push_cast [ze,zd,CLe,zg,k3,c4,c5])
  ·rintro j ⟨j1,j2⟩;by_cases hj:j<x.data.length
   ·have hb:x.data[j]?=some x.data[j]:=Wa hj;by_cases z:(x.data[j].toNat:Int)=0
    ·have hn:¬qC w x:=fun h=>(h.2.2.2.2.2.2.2.2.1 k3).2.2 _ (WB hj) (Bc.1 (by simpa using z));push_cast [hj,k3,hb,z]
     repeat refine an ?_
     exact dn (by push_cast [ze,zd,CLe,zg,hn])
    ·push_cast [hj,k3,hb,z]
     repeat refine an ?_
     exact ⟨j+1,⟨hj,qn hj j2 fun hz=>z (by rw[hz];rfl)⟩,by omega,wk⟩
   ·rw[Wg (by omega)]at j2;push_cast [hj,k3];refine loop (fun i:Nat=>⟨[(2,.ptr 0 0),(3,.ptr 1 0),(8,.sc (.bool ((w.kept.take i).any (jF x)))),(9,.sc (.int .i64 i))],[Nw w,Yf x],0,0⟩) (fun i=>i<=w.kept.length) (fun i=>w.kept.length-i) 0 (Wd _) ?_ ?_
    ·exact wk (by push_cast [ze,zd,CLe,zg,Oy,BO])
    ·intro i hi;by_cases h:i<w.kept.length
     ·have g:=JG w.kept i h;have ha:=zqB (P:=jF x) h;have hp:jF x w.kept[i]=(decide (w.kept[i].ino=x.ino)&&!w.kept[i].content):=rfl;by_cases hn:((w.kept.take i).any (jF x))=true
      ·rw[hn,BP]at ha;push_cast [hkl,h,hn]
       repeat refine an ?_
       exact ⟨i+1,h,by omega,wk (by push_cast [ze,zd,CLe,zg,ha])⟩
      ·have hn:=Ok.2 hn;rw[hn,O0,hp]at ha;by_cases he:w.kept[i].ino=x.ino
       ·rw[Wn he,Or]at ha;push_cast [hkl,h,hn,g,he]
        repeat refine an ?_
        exact ⟨i+1,h,by omega,wk (by push_cast [ze,zd,CLe,zg,ha])⟩
       ·rw[Wj he,W8]at ha;push_cast [hkl,h,hn,g,he]
        repeat refine an ?_
        exact ⟨i+1,h,by omega,wk (by push_cast [ze,zd,CLe,zg,ha])⟩
     ·rw[Wg (by omega)];have hd:decide (qC w x)=w.kept.any (jF x):=key (fun h=>absurd h k2) (fun _=>⟨by omega,by omega,j2⟩);push_cast [hkl,h];exact dn (by push_cast [ze,zd,CLe,zg,hd])
 ·have k1:x.kind=1:=by omega
  refine fon Tryz.func109 ?_;dsimp only[Tryz.f109];push_cast;refine cl hg ?_;push_cast [hle,c2,c3,c4,c5,c6,c7,c8,k2,k3];refine loop (fun j:Nat=>⟨[(2,.ptr 0 0),(3,.ptr 1 0),(7,.sc (.int .i64 j))],[Nw w,Yf x],0,0⟩) (fun j=>j=0) (fun j=>0) 0 rfl ?_ ?_
  ·exact wk (h5:=by push_cast [ze,zd,CLe,zg,c4,c5])
  ·rintro j rfl;by_cases hd0:(0:Int)<x.data.length
   ·push_cast [hd0,k3];refine loop (fun i:Nat=>⟨[(2,.ptr 0 0),(3,.ptr 1 0),(8,.sc (.bool ((w.kept.take i).any (jF x)))),(9,.sc (.int .i64 i))],[Nw w,Yf x],0,0⟩) (fun i=>i<=w.kept.length) (fun i=>w.kept.length-i) 0 (Wd _) ?_ ?_
    ·exact wk (by push_cast [ze,zd,CLe,zg,Oy,BO])
    ·intro i hi;by_cases h:i<w.kept.length
     ·have g:=JG w.kept i h;have ha:=zqB (P:=jF x) h;have hp:jF x w.kept[i]=(decide (w.kept[i].ino=x.ino)&&!w.kept[i].content):=rfl;by_cases hn:((w.kept.take i).any (jF x))=true
      ·rw[hn,BP]at ha;push_cast [hkl,h,hn]
       repeat refine an ?_
       exact ⟨i+1,h,by omega,wk (by push_cast [ze,zd,CLe,zg,ha])⟩
      ·have hn:=Ok.2 hn;rw[hn,O0,hp]at ha;by_cases he:w.kept[i].ino=x.ino
       ·rw[Wn he,Or]at ha;push_cast [hkl,h,hn,g,he]
        repeat refine an ?_
        exact ⟨i+1,h,by omega,wk (by push_cast [ze,zd,CLe,zg,ha])⟩
       ·rw[Wj he,W8]at ha;push_cast [hkl,h,hn,g,he]
        repeat refine an ?_
        exact ⟨i+1,h,by omega,wk (by push_cast [ze,zd,CLe,zg,ha])⟩
     ·rw[Wg (by omega)];have hd:decide (qC w x)=w.kept.any (jF x):=key (fun h=>absurd h k2) (fun h=>absurd h k3);push_cast [hkl,h];exact dn (by push_cast [ze,zd,CLe,zg,hd])
   ·push_cast [hd0,k3];refine loop (fun i:Nat=>⟨[(2,.ptr 0 0),(3,.ptr 1 0),(8,.sc (.bool ((w.kept.take i).any (jF x)))),(9,.sc (.int .i64 i))],[Nw w,Yf x],0,0⟩) (fun i=>i<=w.kept.length) (fun i=>w.kept.length-i) 0 (Wd _) ?_ ?_
    ·exact wk (by push_cast [ze,zd,CLe,zg,Oy,BO])
    ·intro i hi;by_cases h:i<w.kept.length
     ·have g:=JG w.kept i h;have ha:=zqB (P:=jF x) h;have hp:jF x w.kept[i]=(decide (w.kept[i].ino=x.ino)&&!w.kept[i].content):=rfl;by_cases hn:((w.kept.take i).any (jF x))=true
      ·rw[hn,BP]at ha;push_cast [hkl,h,hn]
       repeat refine an ?_
       exact ⟨i+1,h,by omega,wk (by push_cast [ze,zd,CLe,zg,ha])⟩
      ·have hn:=Ok.2 hn;rw[hn,O0,hp]at ha;by_cases he:w.kept[i].ino=x.ino
       ·rw[Wn he,Or]at ha;push_cast [hkl,h,hn,g,he]
        repeat refine an ?_
        exact ⟨i+1,h,by omega,wk (by push_cast [ze,zd,CLe,zg,ha])⟩
       ·rw[Wj he,W8]at ha;push_cast [hkl,h,hn,g,he]
        repeat refine an ?_
        exact ⟨i+1,h,by omega,wk (by push_cast [ze,zd,CLe,zg,ha])⟩
     ·rw[Wg (by omega)];have hd:decide (qC w x)=w.kept.any (jF x):=key (fun h=>absurd h k2) (fun h=>absurd h k3);push_cast [hkl,h];exact dn (by push_cast [ze,zd,CLe,zg,hd])
end
section
open CA CB
open Go.RowKit
def zgX (w:qN):Prop:=(∀ k∈w.kept,k.data.length<=5000)/\k8 w.fs.xs/\k8 w.pool/\w.kept.length<=40
instance (w:qN):Decidable (zgX w):=by unfold zgX;infer_instance
def XG (w:qN) (k:zW):Prop:=k.slot<=1073741824/\(zk k.ino w.fs.xs=true∨zk k.ino w.pool=true)/\(k.content=true->(if zk k.ino w.pool=true then zf k.ino w.pool else zf k.ino w.fs.xs).kind=1)/\(k.content=false->k.data = [])
instance (w:qN) (k:zW):Decidable (XG w k):=by unfold XG;infer_instance
def X0 (ks:List zW):Prop:=qL Ji zW.slot ks/\∀ k∈ks,1<=k.slot
instance (ks:List zW):Decidable (X0 ks):=by unfold X0 qL;infer_instance
def XN (w:qN):Prop:=Jy w.fs=0/\zZ w.pool/\(∀ x∈w.pool,qC w x)/\X0 w.kept/\∀ k∈w.kept,XG w k
instance (w:qN):Decidable (XN w):=by unfold XN;infer_instance
def okW (w:qN):Prop:=zgX w/\XN w
instance (w:qN):Decidable (okW w):=by unfold okW;infer_instance
theorem QZ (h:X0 ks):0<=Ja ks/\∀ k∈ks,k.slot<=Ja ks:=by
 rcases Ap ks with rfl | ⟨l,b,rfl⟩
 ·exact ⟨Ak 0,fun k hk=>by cases hk⟩
 ·rw[Aa]at h ⊢;have hl:Ja (l++[b])=b.slot:=by unfold Ja;rw[BG];rfl
  rw[hl];have hb:=h.2 b (by simp);refine ⟨by omega,fun k hk=>?_⟩;rcases Wz.1 hk with hk | hk
  ·have:=(A1.1 h.1).2.2 k hk b (by simp);have:k.slot<b.slot:=WN this;omega
  ·rw[WY.1 hk];exact Ak _
theorem kB {k:zW}:X0 (ks++[k])↔X0 ks/\Ja ks<k.slot:=by
 constructor
 ·rintro ⟨h1,h2⟩;have h0:X0 ks:=⟨(A1.1 h1).1,fun x hx=>h2 x (OI _ hx)⟩;refine ⟨h0,?_⟩;rcases Ap ks with rfl | ⟨l,b,rfl⟩
  ·have:=h2 k (by simp);show (0:Int)<k.slot;omega
  ·rw[Aa]at h1 ⊢;have hl:Ja (l++[b])=b.slot:=by unfold Ja;rw[BG];rfl
   rw[hl];exact WN ((A1.1 h1).2.2 b (by simp) k (by simp))
 ·rintro ⟨h,hk⟩;obtain ⟨q1,q2⟩:=QZ h;refine ⟨A1.2 ⟨h.1,Bx _ _,fun a ha b hb=>?_⟩,fun x hx=>?_⟩
  ·rw[WY.1 hb];have:=q2 a ha;exact Wn (show a.slot<k.slot by omega)
  ·rcases Wz.1 hx with hx | hx
   ·exact h.2 x hx
   ·rw[WY.1 hx];omega
theorem HX (w:qN):Fun Tryz.prog G0 61 [Q7 w] (qZ (decide (zgX w))) 0:=by
 have hkl:(zJ w.kept).length=w.kept.length:=We ..;have hf:=uV (G:=G0) w.fs;have hq:=UH (G:=G0) w;have hp:=uV (G:=G0) ⟨0,0,0,w.pool⟩;simp only at hp;have fin:(∀ k∈w.kept.take 100,k.data.length<=5000)->(zgX w↔k8 w.fs.xs/\k8 w.pool/\w.kept.length<=40):=fun h=>by
  refine ⟨fun q=>q.2,fun q=>⟨?_,q⟩⟩;rw[Wg (by have:=q.2.2;omega)]at h;exact h
 refine fon Tryz.func61 ?_;dsimp only[Tryz.f61];push_cast;refine loop (fun i:Nat=>⟨[(1,.ptr 0 0),(3,.sc (.int .i64 i))],[Nw w],0,0⟩) (fun i=>i<=w.kept.length/\i<=100/\∀ k∈w.kept.take i,k.data.length<=5000) (fun i=>w.kept.length-i) 0 ⟨Wd _,Wd _,fun x hx=>by simp at hx⟩ ?_ ?_
 ·exact wk
 ·rintro i ⟨h1,h2,h3⟩;have last:(∀ k∈w.kept.take 100,k.data.length<=5000)->decide (zgX w)=(decide (k8 w.fs.xs)&&(decide (k8 w.pool)&&decide (w.kept.length<=40))):=fun h=>by
   have:=fin h;by_cases a:k8 w.fs.xs<;>by_cases b:k8 w.pool<;>by_cases c:w.kept.length<=40<;>simp[this,a,b,c]
  by_cases h:i<w.kept.length
  ·by_cases h100:i<100
   ·have g:=JG w.kept i h;have h100':((i:Int)<100)=True:=eq_true (by omega);by_cases hd:5000<(w.kept[i].data.length:Int)
    ·have hn:¬zgX w:=fun q=>by have:=q.1 _ (WB h);omega
     push_cast [hkl,h,h100',g,hd]
     repeat refine an ?_
     exact dn (by push_cast [ze,zd,CLe,zg,hn])
    ·push_cast [hkl,h,h100',g,hd]
     repeat refine an ?_
     exact ⟨i+1,⟨h,h100,qn h h3 (by omega)⟩,by omega,wk⟩
   ·have h100':((i:Int)<100)=False:=WH (by omega);have e:i=100:=by omega
    have hl:=last (by rw[←e];exact h3);have h40:((w.kept.length:Int)<=40)=False:=WH (by omega);rw[Wj (show ¬w.kept.length<=40 by omega)]at hl;rw[hl];by_cases a:k8 w.fs.xs
    ·by_cases b:k8 w.pool
     ·push_cast [hkl,h,h100'];refine cl hf ?_;push_cast [Wn a];refine cl hq ?_;push_cast;refine cl hp ?_;push_cast [Wn b,hkl,h40];exact dn (by push_cast [ze,zd,CLe,zg,a,b,W8])
     ·push_cast [hkl,h,h100'];refine cl hf ?_;push_cast [Wn a];refine cl hq ?_;push_cast;refine cl hp ?_;push_cast [Wj b];exact dn (by push_cast [ze,zd,CLe,zg,a,b,W8])
    ·push_cast [hkl,h,h100'];refine cl hf ?_;push_cast [Wj a];exact dn (by push_cast [ze,zd,CLe,zg,a,W8])
  ·rw[Wg (by omega)]at h3;have hl:=last fun k hk=>h3 k (Wx hk);rw[hl];by_cases a:k8 w.fs.xs
   ·by_cases b:k8 w.pool
    ·by_cases c:w.kept.length<=40
     ·have h40:((w.kept.length:Int)<=40)=True:=eq_true (by omega);push_cast [hkl,h];refine cl hf ?_;push_cast [Wn a];refine cl hq ?_;push_cast;refine cl hp ?_;push_cast [Wn b,hkl,h40];exact dn (by push_cast [ze,zd,CLe,zg,a,b,c,W8])
     ·have h40:((w.kept.length:Int)<=40)=False:=WH (by omega);push_cast [hkl,h];refine cl hf ?_;push_cast [Wn a];refine cl hq ?_;push_cast;refine cl hp ?_;push_cast [Wn b,hkl,h40];exact dn (by push_cast [ze,zd,CLe,zg,a,b,c,W8])
    ·push_cast [hkl,h];refine cl hf ?_;push_cast [Wn a];refine cl hq ?_;push_cast;refine cl hp ?_;push_cast [Wj b];exact dn (by push_cast [ze,zd,CLe,zg,a,b,W8])
   ·push_cast [hkl,h];refine cl hf ?_;push_cast [Wj a];exact dn (by push_cast [ze,zd,CLe,zg,a,W8])
structure zr6 (w:qN):Prop where
 fs:FsS w.fs
 kept:w.kept.length<=10000
 pool:FsS ⟨0,0,0,w.pool⟩
theorem yA (w:qN) (hw:zr6 w):Fun Tryz.prog G0 62 [Q7 w] (qZ (decide (XN w))) 0:=by
 have hfl:=hw.fs.len;have hkk:=hw.kept;have hpp:w.pool.length<=10000:=hw.pool.len;have hkl:(zJ w.kept).length=w.kept.length:=We ..;have hpl:(zx w.pool).length=w.pool.length:=We ..;have hch:=zeW w.fs hw.fs;have hq:=UH (G:=G0) w;have hri:=Un (G:=G0) ⟨0,0,0,w.pool⟩ (by simp only;omega);by_cases c1:Jy w.fs=0
 case neg =>
  have hn:¬XN w:=fun h=>c1 h.1;refine fof (fun i=>if i=14 then j9 8 9 else []) Tryz.func62 ?_;dsimp only[Tryz.f62];push_cast;refine cl hch ?_;push_cast [c1];exact dn (by push_cast [ze,zd,CLe,zg,hn])
 by_cases c2:zZ w.pool
 case neg =>
  have hn:¬XN w:=fun h=>c2 h.2.1;rw[Wj c2]at hri;refine fof (fun i=>if i=14 then j9 8 9 else []) Tryz.func62 ?_;dsimp only[Tryz.f62];push_cast;refine cl hch ?_;push_cast [c1];refine cl hq ?_;push_cast;refine cl hri ?_;push_cast;exact dn (by push_cast [ze,zd,CLe,zg,hn])
 rw[Wn c2]at hri;refine fof (fun i=>if i=14 then j9 8 9 else []) Tryz.func62 ?_;dsimp only[Tryz.f62];push_cast;refine cl hch ?_;push_cast [c1];refine cl hq ?_;push_cast;refine cl hri ?_;push_cast;refine loop (fun i:Nat=>⟨[(1,.ptr 0 0),(3,.sc (.int .i64 i))],[Nw w],0,0⟩) (fun i=>i<=w.pool.length/\∀ x∈w.pool.take i,qC w x) (fun i=>w.pool.length-i) 0 ⟨Wd _,fun x hx=>by simp at hx⟩ ?_ ?_
 ·exact wk
 rintro i ⟨h1,h2⟩;by_cases h:i<w.pool.length
 ·have g:=jt w.pool i h;have hn:=hw.pool.node _ (WB h);have hpo:=zcC w w.pool[i] (by omega) (by omega) (by omega) (by omega);by_cases c3:qC w w.pool[i]
  ·rw[Wn c3]at hpo;push_cast [hpl,h,g]
   repeat refine an ?_
   refine cl hpo ?_;push_cast
   repeat refine an ?_
   exact ⟨i+1,⟨h,qn h h2 c3⟩,by omega,wk⟩
  ·rw[Wj c3]at hpo;have hn:¬XN w:=fun q=>c3 (q.2.2.1 _ (WB h));push_cast [hpl,h,g]
   repeat refine an ?_
   refine cl hpo ?_;push_cast;exact dn (by push_cast [ze,zd,CLe,zg,hn])
 rw[Wg (by omega)]at h2;have hs0:X0 []:=⟨List.Pairwise.nil,fun k hk=>by cases hk⟩;have hl0:Ja []=0:=rfl;push_cast [hpl,h];clear hri hq hch;refine loop (fun i:Nat=>⟨[(1,.ptr 0 0),(4,.sc (.int .i64 (Ja (w.kept.take i)))),(5,.sc (.int .i64 i))],[Nw w],0,0⟩) (fun i=>i<=w.kept.length/\X0 (w.kept.take i)/\∀ k∈w.kept.take i,XG w k) (fun i=>w.kept.length-i) 0 ⟨Wd _,by rw[Oy];exact hs0,fun x hx=>by simp at hx⟩ ?_ ?_
 ·exact wk (by push_cast [ze,zd,CLe,zg,Oy,hl0])
 rintro i ⟨i1,i2,i3⟩;by_cases hi:i<w.kept.length
 case neg =>
  rw[Wg (by omega)]at i2 i3;have hn:XN w:=⟨c1,c2,h2,i2,i3⟩;push_cast [hkl,hi];exact dn (by push_cast [ze,zd,CLe,zg,hn])
 have g:=JG w.kept i hi;have hlt:=kz hi;have hst:w.kept.take (i+1)=w.kept.take i++[w.kept[i]]:=by rw[WV,Wa hi];rfl
 have hbad1:¬Ja (w.kept.take i)<w.kept[i].slot->¬XN w:=fun hn q=>hn (kB.1 (by
  rw[←hst];exact ⟨q.2.2.2.1.1.sublist (List.take_sublist _ _),fun k hk=>q.2.2.2.1.2 k (Wx hk)⟩)).2
 have hbad2:¬XG w w.kept[i]->¬XN w:=fun hn q=>hn (q.2.2.2.2 _ (WB hi));have hgood:Ja (w.kept.take i)<w.kept[i].slot->X0 (w.kept.take (i+1)):=fun q=>by rw[hst];exact kB.2 ⟨i2,q⟩
 have hgood2:XG w w.kept[i]->∀ k∈w.kept.take (i+1),XG w k:=fun q=>qn hi i3 q;have hg1:=JK (G:=G0) w.fs w.kept[i].ino (by omega);have hq:=UH (G:=G0) w;have hg2:=JK (G:=G0) ⟨0,0,0,w.pool⟩ w.kept[i].ino (by simp only;omega);simp only at hg2;generalize w.kept[i]=k at g hlt hbad1 hbad2 hgood hgood2 hg1 hg2;generalize Ja (w.kept.take i)=la at hbad1 hgood;clear hst i2 i3;by_cases d1:k.slot<=la
 ·have hn:=hbad1 (by omega);push_cast [hkl,hi,g]
  repeat refine an ?_
  refine cl hg1 ?_;push_cast;refine cl hq ?_;push_cast;refine cl hg2 ?_;push_cast [d1];exact dn (by push_cast [ze,zd,CLe,zg,hn])
 have hgd:=hgood (by omega);by_cases d2:1073741824<k.slot
 ·have hn:=hbad2 fun q=>by have:=q.1;omega
  push_cast [hkl,hi,g]
  repeat refine an ?_
  refine cl hg1 ?_;push_cast;refine cl hq ?_;push_cast;refine cl hg2 ?_;push_cast [d1,d2];exact dn (by push_cast [ze,zd,CLe,zg,hn])
 cases e2:zk k.ino w.pool with
 | true =>
  rw[e2]at hg2;by_cases d4:k.content=true
  ·by_cases d5:(zf k.ino w.pool).kind=1
   ·have hok:XG w k:=⟨by omega,.inr e2,fun _=>by rw[if_pos e2];exact d5,fun q=>by rw[d4]at q;cases q⟩;cases e1:zk k.ino w.fs.xs <;>
    ·rw[e1]at hg1;push_cast [hkl,hi,g]
     repeat refine an ?_
     refine cl hg1 ?_;push_cast;refine cl hq ?_;push_cast;refine cl hg2 ?_;push_cast [d1,d2,d4,d5]
     repeat refine an ?_
     exact ⟨i+1,⟨hi,hgd,hgood2 hok⟩,by omega,wk (by push_cast [ze,zd,CLe,zg,hlt])⟩
   ·have hn:=hbad2 fun q=>d5 (by have:=q.2.2.1 d4;rwa [if_pos e2]at this);cases e1:zk k.ino w.fs.xs <;>
    ·rw[e1]at hg1;push_cast [hkl,hi,g]
     repeat refine an ?_
     refine cl hg1 ?_;push_cast;refine cl hq ?_;push_cast;refine cl hg2 ?_;push_cast [d1,d2,d4,d5];exact dn (by push_cast [ze,zd,CLe,zg,hn])
  ·have d4:=Ok.2 d4;by_cases d6:k.data = []
   ·have hok:XG w k:=⟨by omega,.inr e2,fun q=>(by rw[d4]at q;cases q),fun _=>d6⟩;cases e1:zk k.ino w.fs.xs <;>
    ·rw[e1]at hg1;push_cast [hkl,hi,g]
     repeat refine an ?_
     refine cl hg1 ?_;push_cast;refine cl hq ?_;push_cast;refine cl hg2 ?_;push_cast [d1,d2,d4,d6]
     repeat refine an ?_
     exact ⟨i+1,⟨hi,hgd,hgood2 hok⟩,by omega,wk (by push_cast [ze,zd,CLe,zg,hlt])⟩
   ·have hn:=hbad2 fun q=>d6 (q.2.2.2 d4);cases e1:zk k.ino w.fs.xs <;>
    ·rw[e1]at hg1;push_cast [hkl,hi,g]
     repeat refine an ?_
     refine cl hg1 ?_;push_cast;refine cl hq ?_;push_cast;refine cl hg2 ?_;push_cast [d1,d2,d4,d6];exact dn (by push_cast [ze,zd,CLe,zg,hn])
 | false =>
  rw[e2]at hg2;cases e1:zk k.ino w.fs.xs with
  | false =>
   rw[e1]at hg1;have hn:=hbad2 fun q=>by
    rcases q.2.1 with q | q
    ·rw[e1]at q;cases q
    ·rw[e2]at q;cases q
   push_cast [hkl,hi,g]
   repeat refine an ?_
   refine cl hg1 ?_;push_cast;refine cl hq ?_;push_cast;refine cl hg2 ?_;push_cast [d1,d2];exact dn (by push_cast [ze,zd,CLe,zg,hn])
  | true =>
   rw[e1]at hg1;have e2':¬zk k.ino w.pool=true:=by rw[e2];decide
   by_cases d4:k.content=true
   ·by_cases d5:(zf k.ino w.fs.xs).kind=1
    ·have hok:XG w k:=⟨by omega,.inl e1,fun _=>by rw[if_neg e2'];exact d5,fun q=>by rw[d4]at q;cases q⟩;push_cast [hkl,hi,g]
     repeat refine an ?_
     refine cl hg1 ?_;push_cast;refine cl hq ?_;push_cast;refine cl hg2 ?_;push_cast [d1,d2,d4,d5]
     repeat refine an ?_
     exact ⟨i+1,⟨hi,hgd,hgood2 hok⟩,by omega,wk (by push_cast [ze,zd,CLe,zg,hlt])⟩
    ·have hn:=hbad2 fun q=>d5 (by have:=q.2.2.1 d4;rwa [if_neg e2']at this);push_cast [hkl,hi,g]
     repeat refine an ?_
     refine cl hg1 ?_;push_cast;refine cl hq ?_;push_cast;refine cl hg2 ?_;push_cast [d1,d2,d4,d5];exact dn (by push_cast [ze,zd,CLe,zg,hn])
   ·have d4:=Ok.2 d4;by_cases d6:k.data = []
    ·have hok:XG w k:=⟨by omega,.inl e1,fun q=>(by rw[d4]at q;cases q),fun _=>d6⟩;push_cast [hkl,hi,g]
     repeat refine an ?_
     refine cl hg1 ?_;push_cast;refine cl hq ?_;push_cast;refine cl hg2 ?_;push_cast [d1,d2,d4,d6]
     repeat refine an ?_
     exact ⟨i+1,⟨hi,hgd,hgood2 hok⟩,by omega,wk (by push_cast [ze,zd,CLe,zg,hlt])⟩
    ·have hn:=hbad2 fun q=>d6 (q.2.2.2 d4);push_cast [hkl,hi,g]
     repeat refine an ?_
     refine cl hg1 ?_;push_cast;refine cl hq ?_;push_cast;refine cl hg2 ?_;push_cast [d1,d2,d4,d6];exact dn (by push_cast [ze,zd,CLe,zg,hn])
theorem zgX.m (h:zgX w):zr6 w:=⟨h.2.1.fs,by have:=h.2.2.2;omega,k8.fs (f:=⟨0,0,0,w.pool⟩) h.2.2.1⟩
theorem zfB (w:qN):Fun Tryz.prog G0 34 [Q7 w] (qZ (decide (okW w))) 0:=by
 by_cases c:zgX w
 ·have h1:=HX w;have h2:=yA w c.m;rw[Wn c]at h1;have e:decide (okW w)=decide (XN w):=by by_cases r:XN w<;>simp[okW,c,r]
  refine fon Tryz.func34 ?_;dsimp only[Tryz.f34];push_cast;refine cl h1 ?_;push_cast;refine cl h2 ?_;push_cast;exact dn (by push_cast [ze,zd,CLe,zg,e])
 ·have h1:=HX w;rw[Wj c]at h1;have e:¬okW w:=fun h=>c h.1;refine fon Tryz.func34 ?_;dsimp only[Tryz.f34];push_cast;refine cl h1 ?_;push_cast;exact dn (by push_cast [ze,zd,CLe,zg,e])
end
section
open Go.RowKit
section
variable {G:zr}
theorem zf4 (n:Nat) (hn:n<=200000) (h0:0<n):YH Tryz.prog G 172 [.sc (.slice none 0 0),.sc (.int .i64 n)] [] 0 (fun r bx' m=>m=0/\∃ (c:Nat) (B:List C),n<=c/\c<=9223372036854775807/\B.length=c*5/\(B.all C.stayB)=true/\r = .bs 0 0 5 0 c/\bx' = [B]):=by
 have hp:((n:Int)<0)=False:=WH (by omega);have hq:((0:Int)<(n:Int))=True:=eq_true (by omega);refine foX (fun i=>if i=1000000+37 then [true,true] else []) Tryz.func172 ?_;dsimp only[Tryz.f172];push_cast [hp,hq];refine ⟨⟨by omega,by omega⟩,zf0 zjd znG ziI rfl (by decide) rfl (by omega) (by omega) (by omega) (fun c h1 h2=>?_)⟩;push_cast;have hm:(n:Int).toNat=n:=by omega
 rw[hm]at h1;have h2:c<=9223372036854775807:=h2;refine ⟨by omega,by omega,_,[(List.replicate n [C.sc (.int .i64 0),C.sc (.int .i64 0),C.str [],C.str [],C.str []]).flatten++List.replicate ((c-n)*5) C.any],0,⟨⟨rfl,c,_,h1,h2,?_,?_,rfl,rfl⟩,Wd _⟩,[],rfl,rfl,?_,by push_cast [ze,zd,CLe,zg]⟩
 ·simp[hm];omega
 ·simp[OW,OE,C.stayB]
 ·push_cast [ze,zd,CLe,zg];exact zT (by simp[OW,OE,C.stayB])
theorem zch:Fun Tryz.prog G 116 [.sc (.slice none 0 0),.sc (.int .i64 0)] (.sc (.slice none 0 0)) 0:=by
 refine fon Tryz.func116 ?_;dsimp only[Tryz.f116];push_cast;exact dn
theorem zfy (n:Nat) (hn:n<=200000) (h0:0<n):YH Tryz.prog G 116 [.sc (.slice none 0 0),.sc (.int .i64 n)] [] 0 (fun r bx' m=>m=0/\∃ (c:Nat) (B:List C),n<=c/\c<=9223372036854775807/\B.length=c*1/\(B.all C.stayB)=true/\r = .bs 0 0 1 0 c/\bx' = [B]):=by
 have hp:((n:Int)<0)=False:=WH (by omega);have hq:((0:Int)<(n:Int))=True:=eq_true (by omega);refine foX (fun i=>if i=1000000+30 then [true,true] else []) Tryz.func116 ?_;dsimp only[Tryz.f116];push_cast [hp,hq];refine ⟨⟨by omega,by omega⟩,zf0 zhH znG zqC rfl (by decide) rfl (by omega) (by omega) (by omega) (fun c h1 h2=>?_)⟩;push_cast;have hm:(n:Int).toNat=n:=by omega
 rw[hm]at h1;have h2:c<=9223372036854775807:=h2;refine ⟨by omega,by omega,_,[(List.replicate n [C.str []]).flatten++List.replicate ((c-n)*1) C.any],0,⟨⟨rfl,c,_,h1,h2,?_,?_,rfl,rfl⟩,Wd _⟩,[],rfl,rfl,?_,by push_cast [ze,zd,CLe,zg]⟩
 ·simp[hm];omega
 ·simp[OW,OE,C.stayB]
 ·push_cast [ze,zd,CLe,zg];exact zT (by simp[OW,OE,C.stayB])
end
end
section
open CA CB
open Go.RowKit
def szN (a b:Nat):Nat->Nat
 | 0=>0
 | 1=>a
 | _=>a+b
def zoM {α:Type} (a b:List α):Nat->List α
 | 0=>[]
 | 1=>a
 | _=>a++b
structure Gb (k c:Nat) (a b:List (List C)) (j:Nat) (X:List C):Prop where
 len:X.length=c*k
 stay:(X.all C.stayB)=true
 cells:X.take (szN a.length b.length j*k)=(zoM a b j).flatten
theorem Gb.step {k c:Nat} {a b r:List (List C)} {j:Nat} {X:List C} (h:Gb k c a b j X) (hr:zoM a b (j+1)=zoM a b j++r) (hn:szN a.length b.length (j+1)=szN a.length b.length j+r.length) (hk:∀ x∈r,x.length=k) (hs:jn r) (hc:szN a.length b.length (j+1)<=c) :
  Gb k c a b (j+1) (spl X (szN a.length b.length j*k) r.flatten):=by
 have hf:=qt hk;obtain ⟨h1,h2,h3⟩:=h;have hle:(szN a.length b.length j+r.length)*k<=c*k:=WO k (by omega);rw[Oj]at hle;refine ⟨by rw[Q3 (by omega)];exact h1,?_,?_⟩
 ·unfold spl;rw[OW,OW,Wp,Wp];rw[Wt]at h2;exact ⟨⟨Wt.2 fun x hx=>h2 x (Wx hx),Qv hs⟩,Wt.2 fun x hx=>h2 x (WT hx)⟩
 ·unfold spl;rw[hn,Oj,hr,A4,←h3,WE,AH];have e1:(X.take (szN a.length b.length j*k)).length=szN a.length b.length j*k:=by rw[W5];omega
  rw[e1,Wg (by omega),OX,AH,←hf,Wg (Wb _)];simp
structure zor (k c:Nat) (rows:List (List C)) (B:List C):Prop where
 fit:rows.length<=c
 max:c<=9223372036854775807
 len:B.length=c*k
 stay:(B.all C.stayB)=true
 cells:B.take (rows.length*k)=rows.flatten
theorem zor.ok {c e:Nat} {rows:List (List C)} {B:List C} {bx:List (List C)} (h:zor k c rows B) (hb:bx[i]?=some B) (h0:0<rows.length) (hk:∀ r∈rows,r.length=k):zbv [(i,e,k,rows,c)] bx:=
 uW hb (WI h0 h.fit) h.fit h.max h.len hk h.stay h.cells
section
variable {G:zr}
theorem NU (a b:List (List C)) (ka:∀ r∈a,r.length=5) (kb:∀ r∈b,r.length=5) (sa:jn a) (sb:jn b) (la:a.length<=90000) (lb:b.length<=90000) (h0:0<a.length+b.length) :
  YH Tryz.prog G 130 [.sl 1 [[.sl 5 a],[.sl 5 b]]] [] 0 (fun r bx n=>n=0/\∃ c B,zor 5 c (a++b) B/\r = .bs 0 0 5 (a++b).length c/\bx = [B]):=by
 refine foX (fun i=>if i=1000000+37 then [true,true] else []) Tryz.func130 ?_;dsimp only[Tryz.f130];push_cast;refine loop (fun j:Nat=>⟨[(0,.sl 1 [[.sl 5 a],[.sl 5 b]]),(2,.sc (.slice none 0 0)),(3,.sc (.int .i64 (szN a.length b.length j:Nat))),(9,.sl 1 [[.sl 5 a],[.sl 5 b]]),(10,.sc (.int .i64 2)),(11,.sc (.int .i64 j))],[],0,0⟩) (fun j=>j<=2) (fun j=>2-j) 0 (by decide) ?_ ?_
 ·exact wk (by push_cast [ze,zd,CLe,zg,szN])
 intro j hj;obtain rfl | rfl | rfl:j=0∨j=1∨j=2:=by omega
 ·have hn:(((a.length:Int))<0)=False:=WH (by omega);push_cast [szN,hn];exact ⟨⟨by omega,by omega⟩,1,by decide,by decide,wk (by push_cast [ze,zd,CLe,zg,szN])⟩
 ·have hn:(((a.length:Int)+(b.length:Int))<0)=False:=WH (by omega);push_cast [szN,hn];exact ⟨⟨by omega,by omega⟩,2,by decide,by decide,wk (by push_cast [ze,zd,CLe,zg,szN])⟩
 ·push_cast [szN];refine jy [] [] (zf4 (G:=G) (a.length+b.length) (by omega) (by omega)) rfl (by decide) (by decide) (by simp) (by push_cast) (by push_cast) (fun r bx' m hp=>?_);obtain ⟨rfl,c,B,h1,h2,h3,h4,rfl,rfl⟩:=hp;have hre:∀ fp fo,C.reL fp fo B=B:=fun fp fo=>zE h4;push_cast [hre];refine loop (fun p:Nat×List C=>⟨[(0,.sl 1 [[.sl 5 a],[.sl 5 b]]),(6,.bs 0 0 5 (szN a.length b.length p.1) c),(25,.sl 1 [[.sl 5 a],[.sl 5 b]]),(26,.sc (.int .i64 2)),(27,.sc (.int .i64 p.1))],[p.2],0,0⟩) (fun p=>p.1<=2/\Gb 5 c a b p.1 p.2) (fun p=>2-p.1) (0,B) ⟨Wd _,h3,h4,by simp[szN,zoM]⟩ ?_ ?_
  ·exact JY.mk [] rfl rfl (Wd _) rfl (by push_cast [ze,zd,CLe,zg,szN]) (by (push_cast [ze,zd,CLe,zg];exact zT h4))
  rintro ⟨j,X⟩ ⟨hj,hX⟩;have hj:j<=2:=hj;obtain rfl | rfl | rfl:j=0∨j=1∨j=2:=by omega
  ·have hs:=hX.step (r:=a) rfl (by simp[szN]) ka sa (by simp[szN];omega);push_cast [szN];refine Ze zjd ziI rfl rfl (by decide) rfl (qt ka) rfl (by rw[hX.len];omega) (Wd _) (by omega) (by omega) (fun hc=>?_) (fun hc=>absurd hc (by omega));push_cast;have hs:Gb 5 c a b 1 (spl X 0 a.flatten):=by simpa [szN] using hs
   exact ⟨(1,spl X 0 a.flatten),⟨Nat.le_succ 1,hs⟩,by (simp only;omega),JY.mk [] rfl rfl (Wd _) rfl (by push_cast [ze,zd,CLe,zg,szN]) (by (push_cast [ze,zd,CLe,zg];exact zT hs.stay))⟩
  ·have hs:=hX.step (r:=b) rfl (by simp[szN]) kb sb (by simp[szN];omega);push_cast [szN];refine Ze zjd ziI rfl rfl (by decide) rfl (qt kb) rfl (by rw[hX.len];omega) (by omega) (by omega) (by omega) (fun hc=>?_) (fun hc=>absurd hc (by omega));push_cast;have hs:Gb 5 c a b 2 (spl X (a.length*5) b.flatten):=by simpa [szN] using hs
   exact ⟨(2,spl X (a.length*5) b.flatten),⟨Wb 2,hs⟩,by (simp only;omega),JY.mk [] rfl rfl (Wd _) rfl (by push_cast [ze,zd,CLe,zg,szN]) (by (push_cast [ze,zd,CLe,zg];exact zT hs.stay))⟩
  ·push_cast [szN];exact ⟨_,[X],0,⟨⟨rfl,c,X,⟨by rw[Wk];omega,h2,hX.len,hX.stay,by rw[Wk];exact hX.cells⟩,rfl,rfl⟩,Wd _⟩,[],rfl,rfl,by (push_cast [ze,zd,CLe,zg];exact zT hX.stay),by push_cast [ze,zd,CLe,zg,Wk]⟩
theorem MX (a b:List (List C)) (ka:∀ r∈a,r.length=1) (kb:∀ r∈b,r.length=1) (sa:jn a) (sb:jn b) (la:a.length<=90000) (lb:b.length<=90000) (h0:0<a.length+b.length) :
  YH Tryz.prog G 70 [.sl 1 [[.sl 1 a],[.sl 1 b]]] [] 0 (fun r bx n=>n=0/\∃ c B,zor 1 c (a++b) B/\r = .bs 0 0 1 (a++b).length c/\bx = [B]):=by
 refine foX (fun i=>if i=1000000+30 then [true,true] else []) Tryz.func70 ?_;dsimp only[Tryz.f70];push_cast;refine loop (fun j:Nat=>⟨[(0,.sl 1 [[.sl 1 a],[.sl 1 b]]),(2,.sc (.slice none 0 0)),(3,.sc (.int .i64 (szN a.length b.length j:Nat))),(9,.sl 1 [[.sl 1 a],[.sl 1 b]]),(10,.sc (.int .i64 2)),(11,.sc (.int .i64 j))],[],0,0⟩) (fun j=>j<=2) (fun j=>2-j) 0 (by decide) ?_ ?_
 ·exact wk (by push_cast [ze,zd,CLe,zg,szN])
 intro j hj;obtain rfl | rfl | rfl:j=0∨j=1∨j=2:=by omega
 ·have hn:(((a.length:Int))<0)=False:=WH (by omega);push_cast [szN,hn];exact ⟨⟨by omega,by omega⟩,1,by decide,by decide,wk (by push_cast [ze,zd,CLe,zg,szN])⟩
 ·have hn:(((a.length:Int)+(b.length:Int))<0)=False:=WH (by omega);push_cast [szN,hn];exact ⟨⟨by omega,by omega⟩,2,by decide,by decide,wk (by push_cast [ze,zd,CLe,zg,szN])⟩
 ·push_cast [szN];refine jy [] [] (zfy (G:=G) (a.length+b.length) (by omega) (by omega)) rfl (by decide) (by decide) (by simp) (by push_cast) (by push_cast) (fun r bx' m hp=>?_);obtain ⟨rfl,c,B,h1,h2,h3,h4,rfl,rfl⟩:=hp;have hre:∀ fp fo,C.reL fp fo B=B:=fun fp fo=>zE h4;push_cast [hre];refine loop (fun p:Nat×List C=>⟨[(0,.sl 1 [[.sl 1 a],[.sl 1 b]]),(6,.bs 0 0 1 (szN a.length b.length p.1) c),(25,.sl 1 [[.sl 1 a],[.sl 1 b]]),(26,.sc (.int .i64 2)),(27,.sc (.int .i64 p.1))],[p.2],0,0⟩) (fun p=>p.1<=2/\Gb 1 c a b p.1 p.2) (fun p=>2-p.1) (0,B) ⟨Wd _,h3,h4,by simp[szN,zoM]⟩ ?_ ?_
  ·exact JY.mk [] rfl rfl (Wd _) rfl (by push_cast [ze,zd,CLe,zg,szN]) (by (push_cast [ze,zd,CLe,zg];exact zT h4))
  rintro ⟨j,X⟩ ⟨hj,hX⟩;have hj:j<=2:=hj;obtain rfl | rfl | rfl:j=0∨j=1∨j=2:=by omega
  ·have hs:=hX.step (r:=a) rfl (by simp[szN]) ka sa (by simp[szN];omega);push_cast [szN];refine Ze zhH zqC rfl rfl (by decide) rfl (qt ka) rfl (by rw[hX.len];omega) (Wd _) (by omega) (by omega) (fun hc=>?_) (fun hc=>absurd hc (by omega));push_cast;have hs:Gb 1 c a b 1 (spl X 0 a.flatten):=by simpa [szN] using hs
   exact ⟨(1,spl X 0 a.flatten),⟨Nat.le_succ 1,hs⟩,by (simp only;omega),JY.mk [] rfl rfl (Wd _) rfl (by push_cast [ze,zd,CLe,zg,szN]) (by (push_cast [ze,zd,CLe,zg];exact zT hs.stay))⟩
  ·have hs:=hX.step (r:=b) rfl (by simp[szN]) kb sb (by simp[szN];omega);push_cast [szN];refine Ze zhH zqC rfl rfl (by decide) rfl (qt kb) rfl (by rw[hX.len];omega) (by omega) (by omega) (by omega) (fun hc=>?_) (fun hc=>absurd hc (by omega));push_cast;have hs:Gb 1 c a b 2 (spl X (a.length) b.flatten):=by simpa [szN] using hs
   exact ⟨(2,spl X (a.length) b.flatten),⟨Wb 2,hs⟩,by (simp only;omega),JY.mk [] rfl rfl (Wd _) rfl (by push_cast [ze,zd,CLe,zg,szN]) (by (push_cast [ze,zd,CLe,zg];exact zT hs.stay))⟩
  ·push_cast [szN];exact ⟨_,[X],0,⟨⟨rfl,c,X,⟨by rw[Wk];omega,h2,hX.len,hX.stay,by rw[Wk];exact hX.cells⟩,rfl,rfl⟩,Wd _⟩,[],rfl,rfl,by (push_cast [ze,zd,CLe,zg];exact zT hX.stay),by push_cast [ze,zd,CLe,zg,Wk]⟩
theorem xc:Fun Tryz.prog G 70 [.sl 1 [[.sl 1 []],[.sl 1 []]]] (.sl 1 []) 0:=by
 refine fon Tryz.func70 ?_;dsimp only[Tryz.f70];push_cast;refine loop (fun j:Nat=>⟨[(0,.sl 1 [[.sl 1 []],[.sl 1 []]]),(2,.sc (.slice none 0 0)),(3,.sc (.int .i64 0)),(9,.sl 1 [[.sl 1 []],[.sl 1 []]]),(10,.sc (.int .i64 2)),(11,.sc (.int .i64 j))],[],0,0⟩) (fun j=>j<=2) (fun j=>2-j) 0 (by decide) ?_ ?_
 ·exact wk
 intro j hj;obtain rfl | rfl | rfl:j=0∨j=1∨j=2:=by omega
 ·push_cast;exact ⟨1,by decide,by decide,wk⟩
 ·push_cast;exact ⟨2,by decide,by decide,wk⟩
 ·push_cast;refine cl zch ?_;push_cast;refine loop (fun j:Nat=>⟨[(0,.sl 1 [[.sl 1 []],[.sl 1 []]]),(6,.own 0 9 1 []),(25,.sl 1 [[.sl 1 []],[.sl 1 []]]),(26,.sc (.int .i64 2)),(27,.sc (.int .i64 j))],[],1,0⟩) (fun j=>j<=2) (fun j=>2-j) 0 (by decide) ?_ ?_
  ·exact wks [.inr (9,1)]
  intro j hj;obtain rfl | rfl | rfl:j=0∨j=1∨j=2:=by omega
  ·push_cast;exact ⟨1,by decide,by decide,wks [.inl 0]⟩
  ·push_cast;exact ⟨2,by decide,by decide,wks [.inl 0]⟩
  ·push_cast;exact dn
end
end
end Go.Proofs.YtnpdbhbmakdklaaGreatDoor.Vcg
section
namespace Go.Proofs.YtnpdbhbmakdklaaGreatDoor.Kit
open Go.RowKit
theorem zby {a b:ByteArray} (h:a=b):Ending.returned (.string a) = .returned (.string b):=by rw[h]
def toL (s:ByteArray):Lz:=s.data.toList
def ofL (l:Lz):ByteArray:=⟨l.toArray⟩
@[simp] theorem zc7 (l:Lz):toL (ofL l)=l:=by simp[toL,ofL]
@[simp] theorem zqX (s:ByteArray):ofL (toL s)=s:=by cases s;simp[toL,ofL]
theorem Ng (s:ByteArray):(toL s).length=s.size:=WR
theorem GB (l:Lz):(ofL l).size=l.length:=by rw[←Ng,zc7]
def join (sep:ByteArray) (xs:List ByteArray):ByteArray:=⟨(Lib.join (xs.map (·.data.toList)) sep.data.toList).toArray⟩
theorem join_one (sep x:ByteArray):join sep [x]=x:=by
 cases x;simp[join,Lib.join_one]
end Go.Proofs.YtnpdbhbmakdklaaGreatDoor.Kit
end
section
namespace Go.Proofs.YtnpdbhbmakdklaaGreatDoor.Kit
open Go.RowKit
def byteCells (l:Lz):Array Value:=(l.map fun c=>Value.int .u8 (c.toNat:Int)).toArray
theorem kC (w:World) (l:Lz) (T:TypeId) (fr:Nat×Nat) (n:Nat) (hn:n=w.heap.size):Lib.Bytes (w.alloc (.cells (byteCells l) T fr)) n 0 (ofL l):=by
 intro i h;subst hn;have h1:(w.alloc (.cells (byteCells l) T fr)).heap[w.heap.size]?=some (.cells (byteCells l) T fr):=by
  show (w.heap.push _)[w.heap.size]?=_;rw[Array.getElem?_push,if_pos rfl]
 simp only[World.cell?,h1];show (byteCells l)[0+i]?=_;have h2:i<l.length:=by rw[GB]at h;exact h
 rw[Ot,byteCells,Am,Wv,Wa h2]
 rfl
theorem zjP {P:Program} (w:World) (l:Lz) (src e dst:TypeId) (hs:P.underlying src=some (.slice e)) (he:P.underlying e=some (.int .u8)) (hd:P.underlying dst=some .string) (cs:Array Value) (hcs:cs=byteCells l) (fr:Nat×Nat) (m cap n:Nat) (hm:m=w.heap.size) (hn:n=l.length) :
  (convert src dst (.slice (some ⟨m,0,none⟩) n cap)).run P (w.alloc (.cells cs e fr)) = .ok (.string (ofL l)) (w.alloc (.cells cs e fr)):=by
 subst hcs hm hn;have:=Lib.run_convert_whole (P:=P) (w.alloc (.cells (byteCells l) e fr)) src e dst hs he hd w.heap.size 0 (ofL l) (kC w l e fr _ rfl) cap;rw[GB]at this;exact this
end Go.Proofs.YtnpdbhbmakdklaaGreatDoor.Kit
end
section
namespace Go.Proofs.YtnpdbhbmakdklaaGreatDoor
open Go.RowKit
namespace QuoteWalk
open Kit QuotePlain
theorem zfn {c:UInt8} (h:good c=false):¬(32:Int)<=(c.toNat:Int)∨((32:Int)<=(c.toNat:Int)/\¬(c.toNat:Int)<=126)∨((32:Int)<=(c.toNat:Int)/\(c.toNat:Int)<=126/\((c.toNat:Int) != 34)=false) ∨
  ((32:Int)<=(c.toNat:Int)/\(c.toNat:Int)<=126/\((c.toNat:Int) != 34)=true/\((c.toNat:Int) != 92)=false):=by
 simp only[good,Oc]at h;simp only[bne_iff_ne,ne_eq,bne_eq_false_iff_eq];omega
theorem zaX {c:UInt8} (h:good c=true):(32:Int)<=(c.toNat:Int)/\(c.toNat:Int)<=126/\((c.toNat:Int) != 34)=true/\((c.toNat:Int) != 92)=true:=by
 simp only[good,WU]at h;refine ⟨by omega,by omega,?_,?_⟩<;>(simp only[bne_iff_ne,ne_eq];omega)
theorem va (c:UInt8) (w:World) :
  Calls Tryz.prog 198 #[.int .u8 c.toNat] w fun e w'=>e = .returned (.bool (good c))/\w=w':=by
 have hc:=c.toNat_lt;cases hg:good c with
 | true =>
  obtain ⟨g1,g2,g3,g4⟩:=zaX hg;clear hg
  go_enter Tryz.func198,Tryz.ntmps198
  go_wp2
  go_ret
  exact ⟨rfl,rfl⟩
 | false =>
  rcases zfn hg with h | ⟨h0,h⟩ | ⟨h0,h1,h2⟩ | ⟨h0,h1,h2,h3⟩
  all_goals clear hg
  ·go_enter Tryz.func198,Tryz.ntmps198
   go_wp2
   go_ret
   exact ⟨rfl,rfl⟩
  ·go_enter Tryz.func198,Tryz.ntmps198
   go_wp2
   go_ret
   exact ⟨rfl,rfl⟩
  ·go_enter Tryz.func198,Tryz.ntmps198
   go_wp2
   go_ret
   exact ⟨rfl,rfl⟩
  ·go_enter Tryz.func198,Tryz.ntmps198
   go_wp2
   go_ret
   exact ⟨rfl,rfl⟩
theorem zsa (n:Nat) (h:n<16) (w:World):(Instr.index 9 (.string ⟨#[48,49,50,51,52,53,54,55,56,57,97,98,99,100,101,102]⟩) (.int .u8 (n:Int))).run Tryz.prog w = .ok (.int .u8 ((za2 n).toNat:Int)) w:=by
 rcases (by omega:n=0∨n=1∨n=2∨n=3∨n=4∨n=5∨n=6∨n=7∨n=8∨n=9∨n=10∨n=11∨n=12∨n=13∨n=14∨n=15) with rfl | rfl | rfl | rfl | rfl | rfl | rfl | rfl | rfl | rfl | rfl | rfl | rfl | rfl | rfl | rfl
 all_goals kernel_rfl
theorem zpB (c:UInt8) (w:World):(Instr.index 9 (.string ⟨#[48,49,50,51,52,53,54,55,56,57,97,98,99,100,101,102]⟩) (.int .u8 ((c.toNat:Int) / 16))).run Tryz.prog w = .ok (.int .u8 ((za2 (c.toNat / 16)).toNat:Int)) w:=
 zsa (c.toNat / 16) (by have:=c.toNat_lt;omega) w
theorem zqc (c:UInt8) (w:World):(Instr.index 9 (.string ⟨#[48,49,50,51,52,53,54,55,56,57,97,98,99,100,101,102]⟩) (.int .u8 ((c.toNat:Int) % 16))).run Tryz.prog w = .ok (.int .u8 ((za2 (c.toNat % 16)).toNat:Int)) w:=
 zsa (c.toNat % 16) (by omega) w
end QuoteWalk
end Go.Proofs.YtnpdbhbmakdklaaGreatDoor
end
section
namespace Go.Proofs
open YtnpdbhbmakdklaaGreatDoor
open Go.Shelf
def Tryz.zlays166_ren:Go.Shelf.Ren:=⟨fun | 166=>166 | 240=>199 | 276=>232 | n=>n,fun | 0=>0 | 3=>3 | 4=>4 | 9=>9 | 20=>20 | 37=>174 | 70=>218 | 72=>220 | 75=>223 | 164=>281 | 80=>226 | 5=>5 | n=>n,fun | n=>n⟩
theorem Tryz.zlays166:Go.Proofs.Lays.n166 Tryz.prog Tryz.zlays166_ren:={
 mixed:=by kernel_rfl
 f166:=Tryz.func166.trans (Wu some (by kernel_rfl))
 f240:=Tryz.func199.trans (Wu some (by kernel_rfl))
 f276:=Tryz.func232.trans (Wu some (by kernel_rfl))
 t0:=Tryz.underlying0
 a0:=Tryz.isAgg0
 z0:=Tryz.sizeOf0
 v0:=Tryz.zeroValue0
 t3:=Tryz.underlying3
 a3:=Tryz.isAgg3
 z3:=Tryz.sizeOf3
 v3:=Tryz.zeroValue3
 t4:=Tryz.underlying4
 a4:=Tryz.isAgg4
 z4:=Tryz.sizeOf4
 v4:=Tryz.zeroValue4
 t9:=Tryz.underlying9
 a9:=Tryz.isAgg9
 z9:=Tryz.sizeOf9
 v9:=Tryz.zeroValue9
 t20:=Tryz.underlying20
 a20:=Tryz.isAgg20
 z20:=Tryz.sizeOf20
 v20:=Tryz.zeroValue20
 t37:=Tryz.underlying174
 a37:=Tryz.isAgg174
 z37:=Tryz.sizeOf174
 v37:=Tryz.zeroValue174
 t70:=Tryz.underlying218
 a70:=Tryz.isAgg218
 z70:=Tryz.sizeOf218
 v70:=Tryz.zeroValue218
 t72:=Tryz.underlying220
 a72:=Tryz.isAgg220
 z72:=Tryz.sizeOf220
 v72:=Tryz.zeroValue220
 t75:=Tryz.underlying223
 a75:=Tryz.isAgg223
 z75:=Tryz.sizeOf223
 v75:=Tryz.zeroValue223
 t164:=Tryz.underlying281
 a164:=Tryz.isAgg281
 z164:=Tryz.sizeOf281
 v164:=Tryz.zeroValue281 }
theorem Tryz.zBuilder_Extra_166:Builder.Extra Tryz.prog Tryz.zlays166_ren:={
 sizeBuilder:=by kernel_rfl
 liesBuilder:=by kernel_rfl
 t5:=Tryz.underlying5
 a5:=Tryz.isAgg5
 z5:=Tryz.sizeOf5
 v5:=Tryz.zeroValue5
 infoByte:=by kernel_rfl
 cellsByte:=by kernel_rfl
 sizeByte:=by kernel_rfl
 neB5:=by decide }
def Tryz.zlays167_ren:Go.Shelf.Ren:=⟨fun | 167=>197 | 240=>199 | 276=>232 | n=>n,fun | 0=>0 | 4=>4 | 5=>5 | 9=>9 | 20=>20 | 37=>174 | 70=>218 | 72=>220 | 75=>223 | 164=>281 | 80=>226 | n=>n,fun | n=>n⟩
theorem Tryz.zlays167:Go.Proofs.Lays.n167 Tryz.prog Tryz.zlays167_ren:={
 mixed:=by kernel_rfl
 f167:=Tryz.func197.trans (Wu some (by kernel_rfl))
 f240:=Tryz.func199.trans (Wu some (by kernel_rfl))
 f276:=Tryz.func232.trans (Wu some (by kernel_rfl))
 t0:=Tryz.underlying0
 a0:=Tryz.isAgg0
 z0:=Tryz.sizeOf0
 v0:=Tryz.zeroValue0
 t4:=Tryz.underlying4
 a4:=Tryz.isAgg4
 z4:=Tryz.sizeOf4
 v4:=Tryz.zeroValue4
 t5:=Tryz.underlying5
 a5:=Tryz.isAgg5
 z5:=Tryz.sizeOf5
 v5:=Tryz.zeroValue5
 t9:=Tryz.underlying9
 a9:=Tryz.isAgg9
 z9:=Tryz.sizeOf9
 v9:=Tryz.zeroValue9
 t20:=Tryz.underlying20
 a20:=Tryz.isAgg20
 z20:=Tryz.sizeOf20
 v20:=Tryz.zeroValue20
 t37:=Tryz.underlying174
 a37:=Tryz.isAgg174
 z37:=Tryz.sizeOf174
 v37:=Tryz.zeroValue174
 t70:=Tryz.underlying218
 a70:=Tryz.isAgg218
 z70:=Tryz.sizeOf218
 v70:=Tryz.zeroValue218
 t72:=Tryz.underlying220
 a72:=Tryz.isAgg220
 z72:=Tryz.sizeOf220
 v72:=Tryz.zeroValue220
 t75:=Tryz.underlying223
 a75:=Tryz.isAgg223
 z75:=Tryz.sizeOf223
 v75:=Tryz.zeroValue223
 t164:=Tryz.underlying281
 a164:=Tryz.isAgg281
 z164:=Tryz.sizeOf281
 v164:=Tryz.zeroValue281 }
theorem Tryz.zBuilder_Extra_167:Builder.Extra Tryz.prog Tryz.zlays167_ren:={
 sizeBuilder:=by kernel_rfl
 liesBuilder:=by kernel_rfl
 t5:=Tryz.underlying5
 a5:=Tryz.isAgg5
 z5:=Tryz.sizeOf5
 v5:=Tryz.zeroValue5
 infoByte:=by kernel_rfl
 cellsByte:=by kernel_rfl
 sizeByte:=by kernel_rfl
 neB5:=by decide }
open Go.RowKit in
theorem Tryz.zBuilder_WriteByte (B b:Nat) (bs:List Value) (c:Int) (w:World) (h:Lib.IsBuilder 220 5 B b bs w) (hlen:bs.length+1<=140737488355328) (hBw:B<=w.heap.size) :
  Calls Tryz.prog 197 #[.pointer (some ⟨b,0,none⟩),.int .u8 c] w fun e w'=>e = .returned .nilIface/\(Lib.BuilderAt 220 5 B b (.pointer (some ⟨b,0,none⟩)) (bs++[.int .u8 c]) w'/\Below B w w'):=Any.Builder_WriteByte Tryz.zlays167 Tryz.zBuilder_Extra_167 B b bs c w h hlen hBw
open Go.RowKit in
theorem Tryz.zBuilder_WriteString (B b:Nat) (bs:List Value) (s:ByteArray) (w:World) (h:Lib.IsBuilder 220 5 B b bs w) (hlen:bs.length+s.size<=140737488355328) (hBw:B<=w.heap.size) :
  Calls Tryz.prog 166 #[.pointer (some ⟨b,0,none⟩),.string s] w fun e w'=>e = .returned (.tuple #[.int .i64 s.size,.nilIface])/\(Lib.BuilderAt 220 5 B b (.pointer (some ⟨b,0,none⟩)) (bs++Lib.strCells s) w'/\Below B w w'):=Any.Builder_WriteString Tryz.zlays166 Tryz.zBuilder_Extra_166 B b bs s w h hlen hBw
end Go.Proofs
end
