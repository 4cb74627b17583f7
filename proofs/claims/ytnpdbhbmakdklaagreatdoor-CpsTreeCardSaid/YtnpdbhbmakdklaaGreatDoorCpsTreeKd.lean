/- What the proof of CpsTree leans on, part 4. No condition beyond what each theorem states. -/
import Derived.Test.YtnpdbhbmakdklaaGreatDoorCpsTreeKc
import Derived.Lib.IndexAny
import Derived.ProofKit
import Derived.Deep.Slices
import Derived.Deep.Fields
import Derived.ChangeSame
import Derived.ChangeOld
import Derived.Lib.SmallJoins
import Derived.Lib.LaidU8
import Derived.OpenShut
import Derived.FnData
import Derived.Lib.Bytealg
set_option linter.unusedVariables false
set_option linter.unusedSimpArgs false
set_option linter.unusedSectionVars false
set_option maxRecDepth 100000
set_option maxHeartbeats 4000000
namespace Go.Proofs.YtnpdbhbmakdklaaGreatDoor.Vcg
variable {l:List (Int×Int)} {x:zl} {P:Program} {f:FsV} {args:List C} {n i:Int} {k N:Nat} {xs:List zl} {α κ:Type} {S:List Int}
section
open Go.RowKit Go.Shelf
theorem Gb (w:World):(zeroValue 254).run Tryz.prog w = .ok (.agg (Array.replicate 256 (.bool false))) w:=by kernel_rfl
theorem Ut:∀ l:Lz,decide (0<=Lib.indexAny l [47,0])=l.any bad
 | []=>rfl
 | b :: l=>by
  have ih:=Ut l;have hg:=Lib.indexAny_ge [47,0] l;unfold Lib.indexAny;rw[Ug,AQ];cases hb:bad b with
  | true=>simp
  | false =>
   simp only[Oa,Ol,OZ,←ih];split
   ·rename_i h;have:=Oz.1 h
    first | rw[this];done | (rw[this];rfl)
   ·rename_i h;have h':Lib.indexAny l [47,0]≠-1:=by simpa using h
    rw[A5];omega
theorem ya (l:Lz) (hl:l.length<=1000000):Fun Tryz.prog G0 202 [.str l,.str [47,0]] (.sc (.int .i64 (Lib.indexAny l [47,0]))) 0:=by
 refine Fun.wrap (by kernel_rfl) fun R vs h=>?_;obtain ⟨v1,us1,rfl,h1,h⟩:=zg.1 h;obtain ⟨v2,us2,rfl,h2,h⟩:=zg.1 h;rw[zm]at h;subst h;rw[qc]at h1 h2;subst h1 h2;have hsz:(ByteArray.mk l.toArray).size=l.length:=by simp[ByteArray.size]
 by_cases h8:l.length<=8
 ·refine (HO ⟨l.toArray⟩ R.w (by omega)).mono ?_;rintro e w' ⟨rfl,hb⟩;exact ⟨_,rfl,hb,fun R' _=>zp.2 (by simp)⟩
 ·refine (Tryz.strings_IndexAny_long Gb ⟨l.toArray⟩ ⟨#[47,0]⟩ R.w (by decide) (by omega) (by omega) (by decide) ?_).mono ?_
  ·intro j b hb;have:b=47∨b=0:=by
    have:=Wf hb;simpa using this
   rcases this with rfl | rfl<;>decide
  ·rintro e w' ⟨rfl,rfl⟩;exact ⟨_,rfl,((Ob _ _).alloc (Wb _) _).alloc (by simp) _,fun R' _=>zp.2 (by simp)⟩
theorem YP (l:Lz) (hl:l.length<=1000000):Fun Tryz.prog G0 169 [.str l,.str [47,0]] (jb (l.any bad)) 0:=by
 have h:=Ut l;refine fon Tryz.func169 ?_;dsimp only[Tryz.f169];push_cast;refine call (ya l hl) ?_;push_cast;exact dn (by push_cast [ze,zd,CLe,zh,h])
def may (l:Lz):Bool:=!decide (l = [])&&decide (l.length<=255)&&!l.any bad&&!decide (l = [46])&&!decide (l = [46,46])
theorem uD (l:Lz) (hl:l.length<=1000000):Fun Tryz.prog G0 126 [.str l] (jb (may l)) 0:=by
 by_cases h1:l = []
 ·refine fon Tryz.func126 ?_;dsimp only[Tryz.f126];push_cast [h1];exact ⟨[],rfl,rfl,by push_cast [ze,zd,CLe,zh];simp[may]⟩
 ·by_cases h2:l.length<=255
  ·have h2':(l.length:Int)<=255:=by omega
   cases h3:l.any bad with
   | true =>
    refine fon Tryz.func126 ?_;dsimp only[Tryz.f126];push_cast [h1,h2'];refine call (YP l hl) ?_;push_cast [h3];exact ⟨[],rfl,rfl,by push_cast [ze,zd,CLe,zh];simp[may,h3]⟩
   | false =>
    by_cases h4:l = [46]
    ·subst h4;refine fon Tryz.func126 ?_;dsimp only[Tryz.f126];push_cast [h2'];refine call (YP _ hl) ?_;push_cast [h3];exact ⟨[],rfl,rfl,by push_cast [ze,zd,CLe,zh];simp[may]⟩
    ·refine fon Tryz.func126 ?_;dsimp only[Tryz.f126];push_cast [h1,h2'];refine call (YP l hl) ?_;push_cast [h3,h4];exact ⟨[],rfl,rfl,by push_cast [ze,zd,CLe,zh];simp[may,h1,h2,h3,h4]⟩
  ·have h2':¬(l.length:Int)<=255:=by omega
   refine fon Tryz.func126 ?_;dsimp only[Tryz.f126];push_cast [h1,h2'];exact ⟨[],rfl,rfl,by push_cast [ze,zd,CLe,zh];simp[may,h2]⟩
theorem zbC (l:Lz) (hl:l.length<=1000000):Fun Tryz.prog G0 267 [.str l] (jb (!may l)) 0:=by
 refine fon Tryz.func267 ?_;dsimp only[Tryz.f267];push_cast;refine call (uD l hl) ?_;push_cast;exact dn
end
section
open Go.RowKit
def zg0 (xs:List Lz):Int:=match xs.findIdx? (fun x=>!may x) with | some i=>(i:Int) | none=>-1
theorem zjo (xs:List Lz):decide (0<=zg0 xs) = !xs.all may:=by
 unfold zg0;cases h:xs.findIdx? (fun x=>!may x) with
 | none =>
  have:=List.findIdx?_eq_none_iff.1 h;have h2:xs.all may=true:=Ws.2 fun x hx=>by simpa using this x hx
  rw[h2];rfl
 | some i =>
  have h1:=List.findIdx?_eq_some_iff_getElem.1 h;obtain ⟨hi,hp,_⟩:=h1;have h2:xs.all may=false:=List.all_eq_false.2 ⟨xs[i],Wz hi,by simpa using hp⟩;rw[h2];simp
theorem NB (xs:List Lz) (hx:xs.length<=1000001) (hl:∀ x∈xs,x.length<=1000000):Fun Tryz.prog G0 288 [.sl 1 (qj xs),.clo (.func 267) [] []] (.sc (.int .i64 (zg0 xs))) 0:=by
 refine fon Tryz.func288 ?_;dsimp only[Tryz.f288];push_cast;refine loop (fun k:Nat=>⟨[(0,.sl 1 (qj xs)),(1,.clo (.func 267) [] []),(7,.sc (.int .i64 (xs.length:Int))),(8,.sc (.int .i64 k))],[],0,0⟩) (fun k=>k<=xs.length/\∀ j (hj:j<xs.length),j<k->may (xs[j]'hj)=true) (fun k=>xs.length-k) 0 ⟨Wd _,fun j _ hj=>by omega⟩ ?_ ?_
 ·exact wk
 ·intro k hk;have hk1:=hk.1;have hk2:=hk.2;by_cases h:k<xs.length
  ·have hg:(qj xs)[k]?=some [.str (xs[k]'h)]:=by rw[strs_get?,Wa h];rfl
   push_cast [h,hg];refine ⟨by omega,?_⟩;refine call (zbC (xs[k]'h) (hl _ (Wz h))) ?_;push_cast;cases hm:may (xs[k]'h) with
   | true =>
    push_cast;refine ⟨by omega,k+1,⟨by omega,fun j hj hjk=>?_⟩,by omega,wk⟩;rcases Wp j k with g | g
    ·exact hk2 j hj g
    ·have:j=k:=by omega
     subst this;exact hm
   | false =>
    push_cast;refine ⟨[],rfl,rfl,?_⟩;push_cast [ze,zd,CLe,zh];have:xs.findIdx? (fun x=>!may x)=some k:=List.findIdx?_eq_some_iff_getElem.2 ⟨h,by simp[hm],fun j hj=>by simp[hk2 j (by omega) hj]⟩;simp[zg0,this]
  ·push_cast [h];refine ⟨[],rfl,rfl,?_⟩;push_cast [ze,zd,CLe,zh];have:xs.findIdx? (fun x=>!may x)=none:=List.findIdx?_eq_none_iff.2 fun x hx=>by
    obtain ⟨j,hj,rfl⟩:=Wx hx;simp[hk2 j hj (by omega)]
   simp[zg0,this]
theorem UA (xs:List Lz) (hx:xs.length<=1000001) (hl:∀ x∈xs,x.length<=1000000):Fun Tryz.prog G0 266 [.sl 1 (qj xs),.clo (.func 267) [] []] (jb (!xs.all may)) 0:=by
 have h:=zjo xs;refine fon Tryz.func266 ?_;dsimp only[Tryz.f266];push_cast;refine call (NB xs hx hl) ?_;push_cast;exact dn (by push_cast [ze,zd,CLe,zh,h])
def jK (p:Lz):Bool:=decide (zH (zn p)=p)&&(zn p).all may
def Y8 (p:Lz):C:=.tup [.own 0 9 1 (qj (if jK p then zn p else [])),jb (jK p)]
theorem j6 (x y:Lz) (r:List Lz) (sep:Lz):Lib.join (x :: y :: r) sep=x++sep++Lib.join (y :: r) sep:=by
 simp[Lib.join,List.intercalate,List.intersperse]
theorem QI:∀ xs:List Lz,xs≠[]->(Lib.join xs [47]).length+1=(xs.map fun x=>x.length+1).sum
 | [],h=>absurd rfl h
 | [x],_=>by simp[Lib.join]
 | x :: y :: r,_=>by
  have ih:=QI (y :: r) (by simp);rw[j6];simp only[Wn,Wr,OF,WC,OO]at ih ⊢;omega
theorem zgU:∀ l:Lz,((Js l).map fun x=>x.length+1).sum=l.length+1
 | []=>rfl
 | b :: l=>by
  have ih:=zgU l;unfold Js;split
  ·simp only[WC,OO,OF,Wr,ih];omega
  ·cases h:Js l with
   | nil=>exact absurd h (xj l)
   | cons x r =>
    rw[h]at ih;simp only[WC,OO,Wr]at ih ⊢;omega
theorem Gx (f:Lz->Bool):∀ xs:List Lz,((xs.filter f).map fun x=>x.length+1).sum<=(xs.map fun x=>x.length+1).sum
 | []=>by simp
 | x :: r=>by
  have ih:=Gx f r;rw[O6];split
  ·simp only[WC,OO];omega
  ·simp only[WC,OO];omega
theorem zgl:∀ (xs:List Lz) (x:Lz),x∈xs->x.length+1<=(xs.map fun x=>x.length+1).sum
 | y :: r,x,h=>by
  simp only[WC,OO];rcases WJ.1 h with rfl | h
  ·omega
  ·have:=zgl r x h;omega
theorem Hs (l:Lz):(Lib.join (zn l) [47]).length<=l.length/\∀ x∈zn l,x.length<=l.length:=by
 have h1:=zgU l;have h2:=Gx (fun x=>!decide (x = [])) (Js l);rw[←YJ]at h2;refine ⟨?_,fun x hx=>?_⟩
 ·by_cases h:zn l = []
  ·rw[h];simp[Lib.join]
  ·have:=QI (zn l) h;omega
 ·have:=zgl (zn l) x hx;omega
theorem yj (p:Lz) (hp:p.length<=1000000):Fun Tryz.prog G0 236 [.str p] (Y8 p) 1:=by
 have hz:=qW p;have hj:=Hs p;by_cases h1:zH (zn p)=p
 ·have h1':(p=zH (zn p)):=h1.symm;refine fon Tryz.func236 ?_;dsimp only[Tryz.f236];push_cast;refine call (YA p) ?_;push_cast;refine call (Qu p hp) ?_;push_cast;refine call (Qw (zn p) (by omega) (by omega)) ?_;push_cast [h1];refine call (UA (zn p) (by omega) fun x hx=>by have:=hj.2 x hx;omega) ?_;push_cast;cases hm:(zn p).all may with
  | true =>
   push_cast;exact ⟨[.inl 0],rfl,rfl,by simp only[Y8,jK,h1,hm];push_cast [ze,zd,CLe,zh]<;>simp⟩
  | false =>
   push_cast;exact ⟨[.inr (9,1)],rfl,rfl,by simp only[Y8,jK,h1,hm];push_cast [ze,zd,CLe,zh]<;>simp⟩
 ·refine fon Tryz.func236 ?_;dsimp only[Tryz.f236];push_cast;refine call (YA p) ?_;push_cast;refine call (Qu p hp) ?_;push_cast;refine call (Qw (zn p) (by omega) (by omega)) ?_;push_cast [h1];exact ⟨[.inr (9,1)],rfl,rfl,by simp only[Y8,jK,h1];push_cast [ze,zd,CLe,zh]<;>simp⟩
end
section
open Go.RowKit
theorem zpK (l:Lz) (b:UInt8) (h:l[l.length-1]?=some b):Lib.hasSuffix l [47]=decide ((b.toNat:Int)=47):=by
 have hne:l≠[]:=fun e=>by subst e;simp at h
 have hl:l=l.take (l.length-1)++[b]:=by
  have hlt:l.length-1<l.length:=by have:=WI.2 hne;omega
  have:=W1 (l.length-1) l;rw[Ok hlt]at this;rw[Wa hlt]at h;cases h;rw[AL (by omega)]at this;exact this.symm
 rw[hl];unfold Lib.hasSuffix;by_cases h:b=47
 ·subst h;have:([47]:Lz) <:+ l.take (l.length-1)++[47]:=List.suffix_append _ _;rw[List.isSuffixOf_iff_suffix.2 this];rfl
 ·have h2:¬((b.toNat:Int)=47):=zen h;have h3:¬([47]:Lz) <:+ l.take (l.length-1)++[b]:=fun ⟨t,ht⟩=>by
   have:=List.append_inj_right' ht rfl;simp at this;exact h this.symm
  have h4:([47]:Lz).isSuffixOf (l.take (l.length-1)++[b])=false:=by
   rw[Oq];exact fun e=>h3 (List.isSuffixOf_iff_suffix.1 e)
  rw[h4];simp[h2]
theorem Mb (xs:List Lz) (k:Nat) (x:Lz) (h:xs[k]?=some x):Lib.join (xs.take (k+1)) [47]=(if k=0 then x else Lib.join (xs.take k) [47]++[47]++x):=by
 cases xs with
 | nil=>simp at h
 | cons y r =>
  cases k with
  | zero=>simp at h;subst h;simp[Lib.join_one]
  | succ k =>
   simp only[Ax,Nat.succ_ne_zero,Ol];rw[Lib.join_cons,Lib.join_cons,Lib.joinTail_take_succ _ _ _ x (by simpa using h)];simp[WL]
theorem znV (xs:List Lz) (k:Nat):(Lib.join (xs.take k) [47]).length<=(Lib.join xs [47]).length:=by
 by_cases h:xs.take k = []
 ·rw[h];simp[Lib.join]
 ·have h1:=QI (xs.take k) h;have hx:xs≠[]:=fun e=>h (by rw[e];simp);have h2:=QI xs hx;have h3:((xs.take k).map fun x=>x.length+1).sum<=(xs.map fun x=>x.length+1).sum:=by
   conv=>rhs;rw[←W1 k xs,W5,AW]
   omega
  omega
theorem zdh (xs:List Lz) (k:Nat) (x:Lz) (h:xs[k]?=some x):(if xs.take (k+1) = [] then [] else zH (xs.take (k+1)))=(if xs.take k = [] then [] else zH (xs.take k))++[47]++x:=by
 have hk:k<xs.length:=(Wc.1 h).1;have h1:xs.take (k+1)≠[]:=fun e=>by have:=Wv List.length e;rw[W2]at this;simp only[OF]at this;omega
 rw[if_neg h1];unfold zH;rw[if_neg h1,Mb xs k x h];by_cases hk0:k=0
 ·subst hk0;simp
 ·have h2:xs.take k≠[]:=fun e=>by have:=Wv List.length e;rw[W2]at this;simp only[OF]at this;omega
  simp[h2,hk0]
def jst (xs:List Lz) (k:Nat):Lz:=if xs.take k = [] then [] else zH (xs.take k)
theorem ze1 (xs:List Lz) (k:Nat):(jst xs k).length<=(Lib.join xs [47]).length+1:=by
 unfold jst;split
 ·simp
 ·rename_i h;have:=znV xs k;unfold zH;rw[if_neg h];simp;omega
theorem yF (xs:List Lz) (hx:xs.length<=2000001) (hl:(Lib.join xs [47]).length<=100000000):Fun Tryz.prog G0 60 [.sl 1 (qj xs)] (.str (zH xs)) 0:=by
 by_cases h0:xs = []
 ·subst h0;refine fon Tryz.func60 ?_;dsimp only[Tryz.f60];push_cast;exact ⟨[],rfl,rfl,by push_cast [ze,zd,CLe,zh]<;>simp[zH]⟩
 ·have h0':¬((xs.length:Int)=0):=by have:=WI.2 h0;omega
  refine fon Tryz.func60 ?_;dsimp only[Tryz.f60];push_cast [h0'];refine loop (fun k:Nat=>⟨[(0,.sl 1 (qj xs)),(3,.str (jst xs k)),(4,.sc (.int .i64 k))],[],0,0⟩) (fun k=>k<=xs.length) (fun k=>xs.length-k) 0 (Wd _) ?_ ?_
  ·exact Yc.mk [] rfl rfl (Wd _) rfl (by push_cast [ze,zd,CLe,zh]<;>simp[jst]) (by push_cast [ze,zd,CLe,zh])
  ·intro k hk;by_cases h:k<xs.length
   ·have hg:=VY xs k h;have hst:jst xs (k+1)=jst xs k++[47]++xs[k]'h:=zdh xs k (xs[k]'h) (Wa h);have hjk:=ze1 xs k;have hjl:=ze1 xs (k+1);rw[hst]at hjl;simp only[Wn,Wr,OF]at hjl;push_cast [h,hg]
    repeat refine an ?_
    refine ⟨k+1,by omega,by omega,Yc.mk [] rfl rfl (Wd _) rfl ?_ (by push_cast [ze,zd,CLe,zh])⟩;push_cast [ze,zd,CLe,zh];simp[hst]
   ·have hkl:k=xs.length:=by omega
    push_cast [h];exact ⟨[],rfl,rfl,by push_cast [ze,zd,CLe,zh]<;>simp[jst,hkl,h0]⟩
theorem Gi (l:Lz) (hl:l.length<=2000000):Fun Tryz.prog G0 59 [.str l] (jb (may l)) 0:=by
 refine fon Tryz.func59 ?_;dsimp only[Tryz.f59];push_cast;refine loop (fun k:Nat=>⟨[(0,.str l),(3,.sc (.int .i64 k))],[],0,0⟩) (fun k=>k<=l.length/\∀ j (hj:j<l.length),j<k->bad (l[j]'hj)=false) (fun k=>l.length-k) 0 ⟨Wd _,fun j _ hj=>by omega⟩ ?_ ?_
 ·exact wk
 ·intro k hk;have hk1:=hk.1;have hk2:=hk.2;by_cases h:k<l.length
  ·have hb:l[k]?=some (l[k]'h):=Wa h;have hbad:bad (l[k]'h)=true->may l=false:=fun hb=>by
    have:l.any bad=true:=Or.2 ⟨l[k]'h,Wz h,hb⟩;simp[may,this]
   by_cases h47:l[k]'h=47
   ·have h1:(((l[k]'h).toNat:Int)=47):=by rw[h47];rfl
    push_cast [h,hb,h1];refine ⟨by omega,[],rfl,rfl,?_⟩;push_cast [ze,zd,CLe,zh];rw[hbad (by simp[bad,h47])]
   ·have h1:¬(((l[k]'h).toNat:Int)=47):=zen h47;by_cases h00:l[k]'h=0
    ·have h2:(((l[k]'h).toNat:Int)=0):=by rw[h00];rfl
     push_cast [h,hb,h1,h2];refine ⟨by omega,by omega,[],rfl,rfl,?_⟩;push_cast [ze,zd,CLe,zh];rw[hbad (by simp[bad,h00])]
    ·have h2:¬(((l[k]'h).toNat:Int)=0):=zen h00;push_cast [h,hb,h1,h2]
     repeat refine an ?_
     refine ⟨k+1,⟨by omega,fun j hj hjk=>?_⟩,by omega,wk⟩;rcases Wp j k with g | g
     ·exact hk2 j hj g
     ·have:j=k:=by omega
      subst this;simp[bad,h47,h00]
  ·have hany:l.any bad=false:=Oh.2 fun x hx=>by
    obtain ⟨j,hj,rfl⟩:=Wx hx;simp[hk2 j hj (by omega)]
   obtain rfl:k=l.length:=by omega
   by_cases h0:l = []
   ·subst h0;push_cast;exact ⟨[],rfl,rfl,by push_cast [ze,zd,CLe,zh]<;>simp[may]⟩
   ·have h1:(1:Int)<=(l.length:Int):=by have:=WI.2 h0;omega
    by_cases h2:(l.length:Int)<=255
    ·have h2':l.length<=255:=by omega
     by_cases h4:l = [46]
     ·subst h4;push_cast;exact ⟨[],rfl,rfl,by push_cast [ze,zd,CLe,zh]<;>simp[may]⟩
     ·by_cases h5:l = [46,46]
      ·subst h5;push_cast [h4];exact ⟨[],rfl,rfl,by push_cast [ze,zd,CLe,zh]<;>simp[may]⟩
      ·push_cast [h,h1,h2,h4,h5];exact ⟨[],rfl,rfl,by push_cast [ze,zd,CLe,zh]<;>simp[may,h0,h2',hany,h4,h5]⟩
    ·have h2':¬l.length<=255:=by omega
     push_cast [h,h1,h2];exact ⟨[],rfl,rfl,by push_cast [ze,zd,CLe,zh]<;>simp[may,h2']⟩
def Jx (p q:Lz):Bool:=decide ((zn p).take (zn q).length=zn q)
theorem xf (p q:Lz) (hp:p.length<=1000000) (hq:q.length<=1000000):Fun Tryz.prog G0 23 [.str p,.str q] (jb (Jx p q)) 0:=by
 have hn:=Hy p (by omega);have hm:=Hy q (by omega);have hs:=qW p;have ht:=qW q;by_cases h:(zn p).length<(zn q).length
 ·refine fon Tryz.func23 ?_;dsimp only[Tryz.f23];push_cast;refine call hn ?_;push_cast;refine call hm ?_;push_cast [h];refine ⟨[],rfl,rfl,?_⟩;push_cast [ze,zd,CLe,zh];have:¬(zn p).take (zn q).length=zn q:=fun e=>by have:=Wv List.length e;rw[W2]at this;omega
  simp[Jx,this]
 ·refine fon Tryz.func23 ?_;dsimp only[Tryz.f23];push_cast;refine call hn ?_;push_cast;refine call hm ?_;push_cast [h];refine loop (fun k:Nat=>⟨[(5,.own 0 9 1 (qj (zn p))),(6,.own 1 9 1 (qj (zn q))),(7,.sc (.int .i64 k))],[],2,0⟩) (fun k=>k<=(zn q).length/\(zn p).take k=(zn q).take k) (fun k=>(zn q).length-k) 0 ⟨Wd _,rfl⟩ ?_ ?_
  ·exact wks [.inl 0,.inl 1]
  ·intro k hk;have hk1:=hk.1;have hk2:=hk.2;by_cases h3:k<(zn q).length
   ·have hg1:=VY (zn p) k (by omega);have hg2:=VY (zn q) k h3;by_cases he:(zn p)[k]'(by omega)=(zn q)[k]'h3
    ·push_cast [h3,hg1,hg2,he]
     repeat refine an ?_
     refine ⟨k+1,⟨by omega,?_⟩,by omega,wks [.inl 0,.inl 1]⟩;rw[WZ,WZ,hk2,Wa h3,Wa (by omega:k<(zn p).length),he]
    ·push_cast [h3,hg1,hg2,he]
     repeat refine an ?_
     refine ⟨[],rfl,rfl,?_⟩;push_cast [ze,zd,CLe,zh];have:¬(zn p).take (zn q).length=zn q:=fun e=>he (by
      have:=Wv (·[k]?) e;simp only[WF,if_pos h3]at this;rw[Wa (by omega),Wa h3]at this;exact Option.some.inj this)
     simp[Jx,this]
   ·have hkl:k=(zn q).length:=by omega
    push_cast [h3];refine ⟨[],rfl,rfl,?_⟩;push_cast [ze,zd,CLe,zh];rw[hkl,Oi]at hk2;simp[Jx,hk2]
theorem Us (p:Lz) (hp:p.length<=2000000):Fun Tryz.prog G0 33 [.str p] (Y8 p) 1:=by
 have hn:=Hy p (by omega);have hs:=qW p;have hj:=Hs p;refine fon Tryz.func33 ?_;dsimp only[Tryz.f33];push_cast;refine call hn ?_;push_cast;refine loop (fun k:Nat=>⟨[(0,.str p),(4,.own 0 9 1 (qj (zn p))),(5,.sc (.int .i64 k))],[],1,0⟩) (fun k=>k<=(zn p).length/\∀ j (hj:j<(zn p).length),j<k->may ((zn p)[j]'hj)=true) (fun k=>(zn p).length-k) 0 ⟨Wd _,fun j _ hj=>by omega⟩ ?_ ?_
 ·exact wks [.inl 0]
 ·intro k hk;have hk1:=hk.1;have hk2:=hk.2;by_cases h:k<(zn p).length
  ·have hg:=VY (zn p) k h;have hlen:=hj.2 ((zn p)[k]'h) (Wz h);push_cast [h,hg];refine ⟨by omega,?_⟩;refine call (Gi ((zn p)[k]'h) (by omega)) ?_;push_cast;cases hm:may ((zn p)[k]'h) with
   | true =>
    push_cast
    repeat refine an ?_
    refine ⟨k+1,⟨by omega,fun j hj hjk=>?_⟩,by omega,wks [.inl 0]⟩;rcases Wp j k with g | g
    ·exact hk2 j hj g
    ·have:j=k:=by omega
     subst this;exact hm
   | false =>
    have hall:(zn p).all may=false:=List.all_eq_false.2 ⟨(zn p)[k]'h,Wz h,by simp[hm]⟩;push_cast;exact ⟨[.inr (9,1)],rfl,rfl,by simp only[Y8,jK,hall];push_cast [ze,zd,CLe,zh]<;>simp⟩
  ·have hall:(zn p).all may=true:=Ws.2 fun x hx=>by
    obtain ⟨j,hj,rfl⟩:=Wx hx;exact hk2 j hj (by omega)
   push_cast [h];refine call (yF (zn p) (by omega) (by omega)) ?_;push_cast;by_cases h1:zH (zn p)=p
   ·push_cast [h1];exact ⟨[.inl 0],rfl,rfl,by simp only[Y8,jK,h1,hall];push_cast [ze,zd,CLe,zh]<;>simp⟩
   ·push_cast [h1];exact ⟨[.inr (9,1)],rfl,rfl,by simp only[Y8,jK,h1];push_cast [ze,zd,CLe,zh]<;>simp⟩
end
section
open Go.RowKit
def ZB (x:Lz):Prop:=x≠[]/\(47:UInt8)∉x
theorem zeM:∀ a t:Lz,Js (a++47 :: t)=Js a++Js t
 | [],t=>by
  have:Js (47 :: t) = [] :: Js t:=rfl;exact this
 | b :: a,t=>by
  have ih:=zeM a t;have e1:Js (b :: (a++47 :: t))=if b=47 then [] :: Js (a++47 :: t) else match Js (a++47 :: t) with
   | []=>[[b]]
   | x :: r=>(b :: x) :: r:=rfl
  have e2:Js (b :: a)=if b=47 then [] :: Js a else match Js a with
   | []=>[[b]]
   | x :: r=>(b :: x) :: r:=rfl
  rw[W8,e1,e2,ih];by_cases hb:b=47
  ·simp[hb]
  ·rw[if_neg hb,if_neg hb];have hne:=xj a;cases hs:Js a with
   | nil=>exact absurd hs hne
   | cons x r=>simp
theorem zeE:∀ x:Lz,(47:UInt8)∉x->Js x = [x]
 | [],_=>rfl
 | b :: x,h=>by
  have hb:¬(b=47):=fun e=>h (by rw[e];exact Wj);have ih:=zeE x (fun hx=>h (Wk _ hx));unfold Js;rw[if_neg hb,ih]
theorem zfN:∀ (l x:Lz),x∈Js l->(47:UInt8)∉x
 | [],x,h=>by simp[Js]at h;subst h;simp
 | b :: l,x,h=>by
  have ih:=zfN l;unfold Js at h;by_cases hb:b=47
  ·rw[if_pos hb]at h;rcases WJ.1 h with rfl | h
   ·simp
   ·exact ih x h
  ·rw[if_neg hb]at h;have hne:=xj l;cases hs:Js l with
   | nil=>exact absurd hs hne
   | cons y r =>
    rw[hs]at h ih;simp only at h;rcases WJ.1 h with rfl | h
    ·intro hm;rcases WJ.1 hm with e | hm
     ·exact hb e.symm
     ·exact ih y Wj hm
    ·exact ih x (Wk _ h)
theorem Va {l x:Lz} (h:x∈zn l):ZB x:=by
 rw[YJ,Ox]at h;exact ⟨by simpa using h.2,zfN l x h.1⟩
theorem kx (a t:Lz):zn (a++47 :: t)=zn a++zn t:=by
 rw[YJ,YJ,YJ,zeM,O3]
theorem M3 {x:Lz} (h:ZB x):zn x = [x]:=by
 rw[YJ,zeE x h.2];simp[h.1]
theorem yL (l:Lz):zn (47 :: l)=zn l:=kx [] l
theorem H0:∀ xs:List Lz,(∀ x∈xs,ZB x)->zn (Lib.join xs [47])=xs
 | [],_=>rfl
 | [x],h=>by rw[Lib.join_one];exact M3 (h x Wj)
 | x :: y :: r,h=>by
  have ih:=H0 (y :: r) fun z hz=>h z (Wk _ hz);rw[j6,WL];show zn (x++47 :: Lib.join (y :: r) [47])=_;rw[kx,ih,M3 (h x Wj)]
  rfl
theorem XM (xs:List Lz) (h:∀ x∈xs,ZB x):zn (zH xs)=xs:=by
 unfold zH;by_cases hx:xs = []
 ·rw[if_pos hx,hx];rfl
 ·rw[if_neg hx,yL,H0 xs h]
theorem zau (l:Lz) (b:UInt8):Lib.hasSuffix (l++[b]) [47]=decide (b=47):=by
 have:=zpK (l++[b]) b (by simp);rw[this];by_cases h:b=47
 ·subst h;rfl
 ·have h2:¬((b.toNat:Int)=47):=zen h;simp[h,h2]
theorem MA:∀ xs:List Lz,xs≠[]->(∀ x∈xs,ZB x)->∃ t b,Lib.join xs [47]=t++[b]/\b≠47
 | [],h,_=>absurd rfl h
 | [x],_,h=>by
  have hx:=h x Wj;refine ⟨x.dropLast,x.getLast hx.1,?_,fun e=>hx.2 ?_⟩
  ·rw[Lib.join_one,List.dropLast_concat_getLast]
  ·rw[←e];exact List.getLast_mem _
 | x :: y :: r,_,h=>by
  obtain ⟨t,b,e,hb⟩:=MA (y :: r) (by simp) fun z hz=>h z (Wk _ hz);exact ⟨x++[47]++t,b,by rw[j6,e];simp,hb⟩
theorem yc (a:Bool) (xs:List Lz) (s:Bool) (h:∀ x∈xs,ZB x):(!decide (xs = [])&&Lib.hasSuffix (put a xs s) [47])=(s&&!decide (xs = [])):=by
 by_cases hx:xs = []
 ·simp[hx]
 ·unfold put;cases s
  ·obtain ⟨t,b,e,hb⟩:=MA xs hx h;have:=zau ((if a then [47] else [])++t) b;simp only[W6,Oa,Ol,Od,e];rw[←WL,this];simp[hb]
  ·have:=zau ((if a then [47] else [])++Lib.join xs [47]) 47;simp only[hx,Oj,decide_false,Ad,if_true];rw[this];rfl
theorem jO {x:Lz} (h:may x=true):ZB x:=by
 simp only[may,Wo,OY,Of]at h;refine ⟨h.1.1.1.1,fun hm=>?_⟩;have:=Oh.1 h.1.1.2 47 hm;exact this (by decide)
theorem Ma (xs zs:List Lz) (hx:xs≠[]) (hz:zs≠[]):zH (xs++zs)=zH xs++47 :: Lib.join zs [47]:=by
 unfold zH;rw[if_neg hx,if_neg (by simp[hx])];simp only[W8,List.cons.injEq,true_and]
 induction xs with
 | nil=>exact absurd rfl hx
 | cons x r ih =>
  cases r with
  | nil =>
   cases zs with
   | nil=>exact absurd rfl hz
   | cons z zs=>simp only[W8,Om];rw[j6,Lib.join_one];simp
  | cons y r =>
   have:=ih (by simp);simp only[W8]at this ⊢;rw[j6,j6,this];simp
theorem Hw (xs ys:List Lz) (hx:∀ x∈xs,ZB x) (hy:∀ y∈ys,ZB y):Xy (zH xs) (zH ys)=decide (xs.take ys.length=ys):=by
 have nx:=XM xs hx;have ny:=XM ys hy;rw[Bool.eq_iff_iff];simp only[WR,Xy,Ot];constructor
 ·rintro ((h | h) | h)
  ·have:xs=ys:=by rw[←nx,←ny,h]
   rw[this,Oi]
  ·have:ys = []:=by rw[←ny,h];rfl
   rw[this];rfl
  ·unfold Lib.hasPrefix at h;obtain ⟨t,ht⟩:=List.isPrefixOf_iff_prefix.1 h;have:xs=ys++zn t:=by
    rw[←nx,←ht,WL];show zn (zH ys++47 :: t)=_;rw[kx,ny]
   rw[this,Bd]
 ·intro h;have e:xs=ys++xs.drop ys.length:=by
   conv=>lhs;rw[←W1 ys.length xs,h]
  by_cases hys:ys = []
  ·exact .inl (.inr (by rw[hys];rfl))
  ·by_cases hd:xs.drop ys.length = []
   ·refine .inl (.inl ?_);rw[hd,Od]at e;rw[e]
   ·refine .inr ?_;rw[e,Ma _ _ hys hd];unfold Lib.hasPrefix;refine List.isPrefixOf_iff_prefix.2 ⟨Lib.join (xs.drop ys.length) [47],?_⟩;simp
theorem qZ {p:Lz} (h:jK p=true):zH (zn p)=p:=by
 unfold jK at h;simp only[Wo,WR]at h;exact h.1
theorem Hf (p q:Lz) (hp:jK p=true) (hq:jK q=true):Xy p q=Jx p q:=by
 have h:=Hw (zn p) (zn q) (fun x hx=>Va hx) (fun x hx=>Va hx);rw[qZ hp,qZ hq]at h;exact h
end
section
open Go.RowKit Go.ChangeMaps Go.ChangeShapes Go.WideShapes Go.Deep Go.Joins
theorem yU (R:Env):Qb G0 R:=fun g cs h=>by cases h
section
variable {H:Type} {enc:TypeId×Value->H} {W:World}
end
end
section
open Go.RowKit
mutual
/-- the cells that read as a datum of jK data -/
def VT:DataW Unit->Option (List Value)
 | .lit (.int k n)=>some [.int k n]
 | .lit (.bool b)=>some [.bool b]
 | .lit (.string l)=>some [.string ⟨l.toArray⟩]
 | .agg ds=>kJ ds
 | _=>none
def kJ:List (DataW Unit)->Option (List Value)
 | []=>some []
 | d :: ds=>match VT d,kJ ds with
  | some a,some b=>some (a++b)
  | _,_=>none
end
def MD (P:Program):Nat->List Field->Nat->Bool
 | j,[],n=>j==n
 | j,f :: fs,n=>f.offset==j&&MD P (j+P.cellsOf f.type) fs n
def km (P:Program):Nat->TypeId->Bool
 | 0,_=>false
 | m+1,t=>match P.underlying t with
  | some .bool=>true
  | some (.int _)=>true
  | some .string=>true
  | some (.struct fs)=>MD P 0 fs.toList (P.cellsOf t)&&fs.toList.all fun f=>km P m f.type
  | some (.array n e)=>km P m e&&P.cellsOf t==n*P.cellsOf e
  | _=>false
section
variable {enc:TypeId×Value->Unit} {P:Program} {w:World} {base:Nat} {spare:Nat->Bool} {held:Bool}
theorem Hp {d:DataW Unit} {ds:List (DataW Unit)} {a b:List Value} (h1:VT d=some a) (h2:kJ ds=some b):kJ (d :: ds)=some (a++b):=by
 rw[kJ,h1,h2]
theorem Z9 {n:Nat} {cs:List Value} (ih:∀ t cs d p,km P n t=true->DataW.trod enc P w base spare held n t cs=some (d,p)->VT d=some cs) {m:Nat} (hm:∀ t cs d p,km P m t=true->DataW.trod enc P w base spare held n t cs=some (d,p)->VT d=some cs) :
  ∀ (fs:List Field) (j N:Nat) (xs:List (DataW Unit×List MemPlace)),MD P j fs N=true->(fs.all fun f=>km P m f.type)=true->cs.length=N->xs.length=fs.length ->
   (∀ (i:Nat) (f:Field),fs[i]?=some f->DataW.trod enc P w base spare held n f.type ((cs.drop f.offset).take (P.cellsOf f.type))=xs[i]?)->kJ (xs.map (·.1))=some (cs.drop j)
 | [],j,N,xs,hc,_,hl,hx,_=>by
  simp only[MD,Oz]at hc
  match xs,hx with
  | [],_=>rw[OI (by omega)];rfl
 | f :: fs,j,N,xs,hc,ha,hl,hx,hf=>by
  simp only[MD,Wo,Oz]at hc;simp only[AO,Wo]at ha
  match xs,hx with
  | x :: xs,hx =>
   have h0:=hf 0 f rfl;have e0:VT x.1=some ((cs.drop f.offset).take (P.cellsOf f.type)):=hm _ _ _ x.2 ha.1 h0;have e1:=Z9 ih hm fs _ N xs hc.2 ha.2 hl (by simpa using hx) fun i g hg=>hf (i+1) g hg;rw[WC,Hp e0 e1,hc.1,←Aq,W1]
theorem Uj {n:Nat} {e:TypeId} {cs:List Value}:∀ (N j:Nat) (xs:List (DataW Unit×List MemPlace)),(∀ cs d p,DataW.trod enc P w base spare held n e cs=some (d,p)->VT d=some cs)->cs.length=(j+N)*P.cellsOf e->xs.length=N ->
   (∀ (i:Nat),i<N->DataW.trod enc P w base spare held n e ((cs.drop ((j+i)*P.cellsOf e)).take (P.cellsOf e))=xs[i]?)->kJ (xs.map (·.1))=some (cs.drop (j*P.cellsOf e))
 | 0,j,xs,_,hl,hx,_=>by
  match xs,hx with
  | [],_=>rw[OI (by simp at hl;omega)];rfl
 | N+1,j,xs,hm,hl,hx,hf=>by
  match xs,hx with
  | x :: xs,hx =>
   have e0:=hm _ _ x.2 (hf 0 (AR _));have e1:=Uj N (j+1) xs hm (by rw[hl];congr 1;omega) (by simpa using hx) fun i hi=>by
    have:=hf (i+1) (by omega);rw[show j+(i+1)=j+1+i by omega]at this;exact this
   rw[WC,Hp e0 e1,O8,show (j+1)*P.cellsOf e=j*P.cellsOf e+P.cellsOf e by rw[On];omega,←Aq,W1]
theorem Qv:∀ (n m:Nat) (t:TypeId) (cs:List Value) (d:DataW Unit) (p:List MemPlace),km P m t=true->DataW.trod enc P w base spare held n t cs=some (d,p)->VT d=some cs
 | 0,m,t,cs,d,p,_,h=>by simp[DataW.trod]at h
 | n+1,0,t,cs,d,p,hf,h=>by simp[km]at hf
 | n+1,m+1,t,cs,d,p,hf,h=>by
  unfold km at hf;split at hf
  ·rename_i hu;obtain ⟨b,rfl,e⟩:=DataW.trod_bool hu h;cases e;rfl
  ·rename_i k hu;obtain ⟨b,rfl,e,_⟩:=DataW.trod_int hu h;cases e;rfl
  ·rename_i hu;obtain ⟨s,rfl,e,_⟩:=DataW.trod_string hu h;cases e;rw[VT]
  ·rename_i fs hu;simp only[Wo]at hf;obtain ⟨xs,n',hn,e,hl,hx,hg⟩:=DataW.trod_struct hu h;cases hn;cases e;have hrec:∀ t cs d p,km P m t=true->DataW.trod enc P w base spare held n t cs=some (d,p)->VT d=some cs:=fun t cs d p=>Qv n m t cs d p;have:=Z9 (n:=n) (fun t cs d p=>Qv n n t cs d p) hrec fs.toList 0 _ xs hf.1 hf.2 hl (by rw[hx];rfl) fun i f hif=>hg i f (by simpa using hif);rw[AS]at this;rw[VT,this]
  ·rename_i N e hu;simp only[Wo,Oz]at hf;obtain ⟨xs,n',hn,e',hl,hx,hg⟩:=DataW.trod_array hu h;cases hn;cases e';have:=Uj (n:=n) (e:=e) (cs:=cs) N 0 xs (fun cs d p=>Qv n m e cs d p hf.1) (by rw[hl,hf.2,Ov]) hx fun i hi=>by rw[Ov];exact hg i hi
   rw[Nat.zero_mul,AS]at this;rw[VT,this]
  ·cases hf
end
theorem NH {W:World} {g:Nat}:∀ (vs:List Value) (o:Nat),(∀ (i:Nat) v,vs[i]?=some v->W.cell? ⟨g,o+i,none⟩=some v)->(vs.all fun v=>v.oneCell')=true->zP (xz W) (vs.map zD) g o:=fun vs o h ho=>by
 refine qi fun i c hc=>?_;rw[Wy,Ap]at hc;obtain ⟨v,hv,rfl⟩:=hc;exact ⟨v,h i v hv,fun hf=>hf,jX _ _ v,Ws.1 ho v (Wf hv)⟩
theorem GI {W:World} {l:List (String×DataW Unit)} (h:laidMetH P l W) (hp:(l.filter fun x=>x.2.handleName?.isSome) = []) {n:String} {d:DataW Unit} (hm:(n,d)∈l) {g:Nat} {t:TypeId} {m:Nat} {vs:List Value}
  (hg:P.globalNamed n=some g) (ht:(P.globals[g]?).map (·.type)=some t) (hf:km P m t=true) (hd:VT d=some vs) (ho:(vs.all fun v=>v.oneCell')=true):zP (xz W) (vs.map zD) g 0:=by
 unfold laidMetH at h;rw[hp]at h;obtain ⟨g',t',cs,fuel,p,hg',ht',hvar,htr⟩:=Lib.laidMet.reads h hm;rw[hg]at hg';cases hg';rw[ht]at ht';cases ht';have e:=Qv _ _ _ _ _ _ hf htr;have e':vs=cs.toList:=Option.some.inj (hd.symm.trans e);subst e';refine NH _ 0 (fun i v hv=>?_) ho;rw[World.var?_cell hg hvar,Ov];simpa using hv
theorem J0 {W:World} {l:List (String×DataW Unit)} (h:laidMetH P l W) (hp:(l.filter fun x=>x.2.handleName?.isSome) = []) {n:String} {d:DataW Unit} (hm:(n,d)∈l) {g:Nat} {t:TypeId} {m:Nat} {vs:List Value}
  (hg:P.globalNamed n=some g) (ht:(P.globals[g]?).map (·.type)=some t) (hf:km P m t=true) (hd:VT d=some vs) (ho:(vs.all fun v=>v.oneCell')=true) :
  zP (xz W) (vs.map zD) g 0/\(∃ us ty fl,(xz W).w.heap[g]?=some (.cells us ty fl)/\us.size=(vs.map zD).length)/\∀ o,¬(xz W).M g o:=by
 refine ⟨GI h hp hm hg ht hf hd ho,?_,fun o h=>h⟩;unfold laidMetH at h;rw[hp]at h;obtain ⟨g',t',cs,fuel,p,hg',ht',hvar,htr⟩:=Lib.laidMet.reads h hm;rw[hg]at hg';cases hg';rw[ht]at ht';cases ht';have e:=Qv _ _ _ _ _ _ hf htr;have e':vs=cs.toList:=Option.some.inj (hd.symm.trans e);subst e';unfold World.var? at hvar;rw[hg]at hvar;simp only[AC]at hvar;split at hvar
 ·rename_i cs' ty fl hh;cases hvar;exact ⟨_,_,_,hh,by simp⟩
 ·cases hvar
theorem Fun.glob {G G':zq} {f:FuncId} {r:C} {n:Nat} (h:Fun P G f args r n) (hG:∀ g cs,G g=some cs->G' g=some cs):Fun P G' f args r n:=
 ⟨h.1,fun R vs hg ha=>h.2 R vs (fun g cs e=>hg g cs (hG g cs e)) ha⟩
theorem Fun.glob0 {G':zq} {f:FuncId} {r:C} {n:Nat} (h:Fun P G0 f args r n):Fun P G' f args r n:=h.glob fun g cs e=>by cases e
end
section
open CA CB
open Go.RowKit
def zp7:List Value:=[.bool false,.bool false,.bool false,.bool false,.bool false,.bool false,.bool false,.bool true,.bool false,.bool true,.bool true,.bool false,.bool false,.bool false,.bool true,.bool false,.bool true,.bool false,.bool false,.bool true,.bool false,.bool true,.bool false,.bool false,.bool false,.bool false,.bool false,.bool true,.bool false,.bool false,.bool true,.bool false,.bool false]
def G1:zq:=fun g=>if g=3 then some (zp7.map zD) else none
theorem zq5:G1 3=some [.sc (.bool false),.sc (.bool false),.sc (.bool false),.sc (.bool false),.sc (.bool false),.sc (.bool false),.sc (.bool false),.sc (.bool true),.sc (.bool false),.sc (.bool true),.sc (.bool true),.sc (.bool false),.sc (.bool false),.sc (.bool false),.sc (.bool true),.sc (.bool false),.sc (.bool true),.sc (.bool false),.sc (.bool false),.sc (.bool true),.sc (.bool false),.sc (.bool true),.sc (.bool false),.sc (.bool false),.sc (.bool false),.sc (.bool false),.sc (.bool false),.sc (.bool true),.sc (.bool false),.sc (.bool false),.sc (.bool true),.sc (.bool false),.sc (.bool false)]:=rfl
attribute [push_cast] zq5
def zT (p:Lz):Bool:=jK p&&!decide (zn p = [])
theorem xY (p:Lz) (hp:p.length<=1000000):Fun Tryz.prog G0 203 [.str p] (jb (zT p)) 0:=by
 have h:=yj p hp;unfold Y8 at h;cases hb:jK p with
 | false =>
  rw[hb]at h;refine fon Tryz.func203 ?_;dsimp only[Tryz.f203];push_cast;refine cl h ?_;push_cast;exact ⟨[],rfl,rfl,by push_cast [ze,zd,CLe,zh];simp[zT,hb]⟩
 | true =>
  rw[hb,if_pos rfl]at h;refine fon Tryz.func203 ?_;dsimp only[Tryz.f203];push_cast;refine cl h ?_;push_cast;refine ⟨[],rfl,rfl,?_⟩;push_cast [ze,zd,CLe,zh];by_cases hn:zn p = []
  ·simp[zT,hb,hn]
  ·have:=WI.2 hn;simp[zT,hb,hn,this]
theorem zcb (l:Lz):Fun Tryz.prog G0 192 [.str l,.str [0]] (.sc (.int .i64 (Lib.indexByte l 0))) 0:=by
 refine Fun.wrap (by kernel_rfl) fun R vs h=>?_;obtain ⟨v1,us1,rfl,h1,h⟩:=zg.1 h;obtain ⟨v2,us2,rfl,h2,h⟩:=zg.1 h;rw[zm]at h;subst h;rw[qc]at h1 h2;subst h1 h2;refine (Tryz.strings_Index_one ⟨l.toArray⟩ 0 R.w).mono ?_;rintro e w' ⟨rfl,rfl⟩;exact ⟨_,rfl,Ob _ _,fun R' _=>zp.2 (by simp)⟩
theorem GB:∀ l:Lz,decide (0<=Lib.indexByte l 0)=l.any (fun b=>decide (b=0))/\-1<=Lib.indexByte l 0
 | []=>⟨rfl,by decide⟩
 | b :: l=>by
  obtain ⟨h1,h2⟩:=GB l;unfold Lib.indexByte;by_cases hb:b=0
  ·subst hb;simp
  ·have hb':(b==0)=false:=by simpa using hb
   rw[hb'];simp only[Oa,Ol,AQ,hb,decide_false,OZ,←h1];split
   ·rename_i hm;have:=Oz.1 hm;rw[this];simp
   ·rename_i hm;have:¬Lib.indexByte l 0 = -1:=fun e=>hm (by rw[e];rfl);constructor
    ·rw[A5];omega
    ·omega
theorem Nq (l:Lz) (hl:l.length<=1000000):Fun Tryz.prog G0 237 [.str l,.str [0]] (jb (l.any fun b=>decide (b=0))) 0:=by
 have h:=(GB l).1;refine fon Tryz.func237 ?_;dsimp only[Tryz.f237];push_cast;refine cl (zcb l) ?_;push_cast;exact dn (by push_cast [ze,zd,CLe,zh,h])
def YQ (s:Lz):Bool:=!decide (s = [])&&decide (s.length<=4095)&&!(s.any fun b=>decide (b=0))
theorem zck (s:Lz) (hs:s.length<=1000000):Fun Tryz.prog G0 204 [.str s] (jb (YQ s)) 0:=by
 have h:=Nq s hs;by_cases h1:s = []
 ·refine fon Tryz.func204 ?_;dsimp only[Tryz.f204];push_cast [h1];exact ⟨[],rfl,rfl,by push_cast [ze,zd,CLe,zh];simp[YQ,h1]⟩
 ·by_cases h2:s.length<=4095
  ·have h2':(s.length:Int)<=4095:=by omega
   refine fon Tryz.func204 ?_;dsimp only[Tryz.f204];push_cast [h1,h2'];refine cl h ?_;push_cast;exact ⟨[],rfl,rfl,by push_cast [ze,zd,CLe,zh];simp[YQ,h1,h2]⟩
  ·have h2':¬(s.length:Int)<=4095:=by omega
   refine fon Tryz.func204 ?_;dsimp only[Tryz.f204];push_cast [h1,h2'];exact ⟨[],rfl,rfl,by push_cast [ze,zd,CLe,zh];simp[YQ,h1,h2]⟩
end
end Go.Proofs.YtnpdbhbmakdklaaGreatDoor.Vcg
section
namespace Go.Proofs.YtnpdbhbmakdklaaGreatDoor.QuotePlain
abbrev Bs:=Lz
def good (c:UInt8):Bool:=decide (32<=c.toNat/\c.toNat<=126/\c.toNat≠34/\c.toNat≠92)
def zlF:Bs:=[48,49,50,51,52,53,54,55,56,57,97,98,99,100,101,102]
def zbS (n:Nat):UInt8:=zlF.getD n 0
def qb (c:UInt8):Bs:=if good c then [c] else [92,120,zbS (c.toNat / 16),zbS (c.toNat % 16)]
def mid (l:Bs):Bs:=l.flatMap qb
def jR (l:Bs):Bs:=34 :: (mid l++[34])
def zqU (l:Bs):Bool:=decide (l≠[])&&l.all fun c=>decide (33<=c.toNat/\c.toNat<=126/\c.toNat≠34)
def zoC (c:UInt8):Nat:=(zlF.findIdx? (·==c)).getD 16
def zkv:Bs->UInt8×Nat
 | []=>(0,0)
 | c :: r =>
  if c≠92 then (if good c then (c,1) else (0,0))
  else match r with
   | x :: a :: b :: _=>if x=120/\zoC a<16/\zoC b<16/\good (UInt8.ofNat (zoC a*16+zoC b))=false then (UInt8.ofNat (zoC a*16+zoC b),4) else (0,0)
   | _=>(0,0)
theorem zgz {p:UInt8->Bool} (h:(List.range 256).all (fun n=>p (UInt8.ofNat n))=true) (c:UInt8):p c=true:=by
 have h1:=Ws.1 h c.toNat (List.mem_range.2 c.toNat_lt);simpa using h1
def zpq:Nat->Bs->Option (Bs×Nat)
 | 0,_=>none
 | _+1,[]=>none
 | f+1,c :: r=>if c=34 then some ([],1) else if (zkv (c :: r)).2=0 then none else (zpq f ((c :: r).drop (zkv (c :: r)).2)).map fun x=>((zkv (c :: r)).1 :: x.1,(zkv (c :: r)).2+x.2)
def body (l:Bs):Option (Bs×Nat):=zpq (l.length+1) l
def qtd:Bs->Option (Bs×Nat)
 | []=>none
 | c :: r=>if c=34 then (body r).map fun x=>(x.1,x.2+1) else none
def unq (l:Bs):Option Bs:=match qtd l with | some (t,n)=>if n=l.length then some t else none | none=>none
end Go.Proofs.YtnpdbhbmakdklaaGreatDoor.QuotePlain
end
section
namespace Go.Proofs.YtnpdbhbmakdklaaGreatDoor.QuotePlain
def okw (w:Bs):Bool:=(unq w).isSome||zqU w
def cut:Bs->Bs->Bool->Option (List Bs)
 | [],w,_=>if okw w then some [w] else none
 | c :: r,w,i=>if c=32/\i=false then (if okw w then (cut r [] i).map (w :: ·) else none) else cut r (w++[c]) (if c=34 then !i else i)
end Go.Proofs.YtnpdbhbmakdklaaGreatDoor.QuotePlain
end
section
namespace Go.Proofs.YtnpdbhbmakdklaaGreatDoor.QuotePlain
def F (q:List Bs):Bs:=q.flatMap (·++[32])
end Go.Proofs.YtnpdbhbmakdklaaGreatDoor.QuotePlain
end
namespace Go.Proofs.YtnpdbhbmakdklaaGreatDoor.Vcg
variable {l:List (Int×Int)} {x:zl} {P:Program} {f:FsV} {args:List C} {n i:Int} {k N:Nat} {xs:List zl} {α κ:Type} {S:List Int}
section
structure OpV where
 kind:Int
 slot:Int
 a:Lz
 b:Lz
 d:Lz
deriving DecidableEq,Inhabited
def Zh (k:Int):Bool:=decide (k=3)||decide (k=7)||decide (k=9)||decide (k=10)
def zoJ (k:Int):Bool:=decide (k=2)||decide (k=3)||decide (k=5)||decide (k=6)
end
section
open CA CB
open Go.RowKit
def opL (o:OpV):List C:=[.sc (.int .i64 o.kind),.sc (.int .i64 o.slot),.str o.a,.str o.b,.str o.d]
def UL (o:OpV):Bool:=decide (1<=o.kind)&&decide (o.kind<=10)&&zT o.a&&(if Zh o.kind then decide (1<=o.slot)&&decide (o.slot<=1073741824) else decide (o.slot=0))&&(if zoJ o.kind then zT o.b else decide (o.b = []))
 && (if o.kind=4 then YQ o.d else decide (o.d = []))&&(!decide (o.kind=6)||(!Xy o.a o.b&&!Xy o.b o.a))
def Vs (o:OpV):Prop:=o.a.length<=1000000/\o.b.length<=1000000/\o.d.length<=1000000
theorem J5 (k s:Int) (a b d:Lz) (hs:Vs ⟨k,s,a,b,d⟩):Fun Tryz.prog G1 170 [.agg (opL ⟨k,s,a,b,d⟩)] (jb (UL ⟨k,s,a,b,d⟩)) 0:=by
 have hs1:a.length<=1000000:=hs.1;have hs2:b.length<=1000000:=hs.2.1;have hs3:d.length<=1000000:=hs.2.2;have h1:=(xY a (by omega)).glob0 (G':=G1);have h2:=(xY b (by omega)).glob0 (G':=G1);have h3:=(zck d (by omega)).glob0 (G':=G1);have h4:=(H9 a b (by omega)).glob0 (G':=G1);have h5:=(H9 b a (by omega)).glob0 (G':=G1);unfold opL;by_cases hk1:k<1
 ·have:¬1<=k:=by omega
  refine fon Tryz.func170 ?_;dsimp only[Tryz.f170];push_cast [hk1];exact ⟨[],rfl,rfl,by push_cast [ze,zd,CLe,zh];simp[UL,this]⟩
 by_cases hk2:10<k
 ·have:¬k<=10:=by omega
  refine fon Tryz.func170 ?_;dsimp only[Tryz.f170];push_cast [hk1,hk2];exact ⟨[],rfl,rfl,by push_cast [ze,zd,CLe,zh];simp[UL,this]⟩
 cases hp:zT a with
 | false =>
  rw[hp]at h1;refine fon Tryz.func170 ?_;dsimp only[Tryz.f170];push_cast [hk1,hk2];refine cl h1 ?_;push_cast;exact ⟨[],rfl,rfl,by push_cast [ze,zd,CLe,zh];simp[UL,hp]⟩
 | true =>
  rw[hp]at h1;have hk:k=1∨k=2∨k=3∨k=4∨k=5∨k=6∨k=7∨k=8∨k=9∨k=10:=by omega
  clear hk1 hk2 hs hs1 hs2 hs3;rcases hk with rfl | rfl | rfl | rfl | rfl | rfl | rfl | rfl | rfl | rfl
  all_goals
   refine fon Tryz.func170 ?_;dsimp only[Tryz.f170];push_cast;refine cl h1 ?_;push_cast
   repeat' (first
    | (refine call h2 ?_;push_cast)
    | (refine zbx h2 ?_;push_cast)
    | (refine call h3 ?_;push_cast)
    | (refine zbx h3 ?_;push_cast)
    | (refine call h4 ?_;push_cast)
    | (refine zbx h4 ?_;push_cast)
    | (refine call h5 ?_;push_cast)
    | (refine zbx h5 ?_;push_cast)
    | (refine br (fun h=>?_) (fun h=>?_)<;>push_cast [h])
    | (refine ⟨[],rfl,rfl,?_⟩;push_cast [ze,zd,CLe,zh];clear h1 h2 h3 h4 h5;simp_all [UL,Zh,zoJ]<;>omega))
end
section
structure zK where
 dir:Int
 name:Lz
 ino:Int
deriving DecidableEq,Inhabited
structure zV where
 slot:Int
 ino:Int
 content:Bool
 data:Lz
deriving DecidableEq,Inhabited
structure qH where
 fs:FsV
 kept:List zV
 pool:List zl
deriving DecidableEq,Inhabited
def js:zK:=⟨0,[],0⟩
def znf:zV:=⟨0,0,false,[]⟩
abbrev JE (es:List zN):Prop:=qU Jj zN.name es
def YM (n:Lz) (es:List zN):Bool:=JZ zN.name n es
def zY (n:Lz) (es:List zN):Int:=match qM zN.name n es with | some e=>e.ino | none=>0
def zj (n:Lz) (es:List zN):List zN:=Ye zN.name n es
def zL (n:Lz) (i:Int) (es:List zN):List zN:=Vn Jj zN.name ⟨n,i⟩ (Ye zN.name n es)
def atW (xs:List zl):List Lz->zK->zK×Int
 | [],s=>(s,0)
 | n :: r,s=>if s.ino=0 then (js,1) else if (zf s.ino xs).kind≠2 then (js,3) else atW xs r ⟨(zf s.ino xs).ino,n,zY n (zf s.ino xs).es⟩
def atV (f:FsV) (p:Lz):zK×Int:=if jK p then atW f.xs (zn p) ⟨0,[],1⟩ else (js,9)
def JS (f:FsV) (n b:Int):Bool:=decide (f.xs.length+n<=f.maxI)&&decide (z8 f.xs+b<=f.maxB)
def ql (d:Int) (es:List zN->List zN) (xs:List zl):List zl:=qo { zf d xs with es:=es (zf d xs).es } xs
def Q8 (f:FsV) (s:zK) (k:Int) (t:Lz):FsV:={ f with next:=f.next+1,xs:=qo ⟨f.next,k,1,t,if k=2 then s.dir else 0,[]⟩ (ql s.dir (zL s.name f.next) f.xs) }
def kw (f:FsV) (s:zK) (k:Int) (t:Lz):FsV×Int:=
 if may s.name then (if JS f 1 (if k=1 then (t.length:Int) else 0) then (Q8 f s k t,0) else (f,8)) else (f,9)
def zI (f:FsV) (s:zK):FsV:=
 if (zf s.ino f.xs).links-1=0 then { f with xs:=qh s.ino (ql s.dir (zj s.name) f.xs) }
 else { f with xs:=qo { zf s.ino f.xs with links:=(zf s.ino f.xs).links-1 } (ql s.dir (zj s.name) f.xs) }
def Q4 (f:FsV) (s:zK) (i:Int):FsV:={ f with xs:=qo { zf i f.xs with links:=(zf i f.xs).links+1 } (ql s.dir (zL s.name i) f.xs) }
def JG (f:FsV) (a b:zK):FsV:=
 let g:=ql b.dir (zL b.name a.ino) (ql a.dir (zj a.name) f.xs)
 if (zf a.ino g).kind=2 then { f with xs:=qo { zf a.ino g with parent:=b.dir } g } else { f with xs:=g }
def Qe (f:FsV) (i:Int) (t:Lz):FsV:={ f with xs:=qo { zf i f.xs with data:=t } f.xs }
def Xx (f:FsV) (i:Int) (t:Lz):FsV×Int:=
 if JS f 0 ((t.length:Int)-(zf i f.xs).data.length) then (Qe f i t,0) else (f,8)
def MZ (n:Int) (ks:List zV):Bool:=JZ zV.slot n ks
def qP (k:zV) (ks:List zV):List zV:=Vn Jq zV.slot k ks
def XL (w:qH) (n:Int) (s:zK):qH×Int:=
 if MZ n w.kept then (w,13)
 else (⟨zI w.fs s,qP ⟨n,s.ino,false,[]⟩ w.kept,if (zf s.ino w.fs.xs).links=1 then qo { zf s.ino w.fs.xs with links:=0,parent:=0 } w.pool else w.pool⟩,0)
def qF (w:qH) (n i:Int):qH×Int:=
 if MZ n w.kept then (w,13) else ({ w with kept:=qP ⟨n,i,true,(zf i w.fs.xs).data⟩ w.kept },0)
def isV (f:FsV) (p:Lz) (want:Bool):zK×zl×Int:=
 let a:=atV f p
 (a.1,zf a.1.ino f.xs,if a.2≠0 then a.2 else if want&&!zk a.1.ino f.xs then 1 else if !want&&zk a.1.ino f.xs then 2 else 0)
def qd (f:FsV) (p:Lz):zl×Int:=
 let a:=isV f p true
 (a.2.1,if a.2.2≠0 then a.2.2 else if a.2.1.kind=2 then 4 else if a.2.1.kind=3 then 9 else 0)
def JK (w:qH) (p:Lz) (k:Int) (t:Lz):qH×Int:=
 if (isV w.fs p false).2.2≠0 then (w,(isV w.fs p false).2.2) else ({ w with fs:=(kw w.fs (isV w.fs p false).1 k t).1 },(kw w.fs (isV w.fs p false).1 k t).2)
def Jk (w:qH) (o:OpV):qH×Int:=
 if (qd w.fs o.a).2≠0 then (w,(qd w.fs o.a).2) else JK w o.b 1 (qd w.fs o.a).1.data
def qL (w:qH) (o:OpV):qH×Int:=
 if (qd w.fs o.a).2≠0 then (w,(qd w.fs o.a).2)
 else if (qd w.fs o.b).2≠0 then (w,(qd w.fs o.b).2)
 else if (qd w.fs o.a).1.ino=(qd w.fs o.b).1.ino then (w,9)
 else if (qF w o.slot (qd w.fs o.b).1.ino).2≠0 then (w,(qF w o.slot (qd w.fs o.b).1.ino).2)
 else if (Xx w.fs (qd w.fs o.b).1.ino (qd w.fs o.a).1.data).2≠0 then (w,(Xx w.fs (qd w.fs o.b).1.ino (qd w.fs o.a).1.data).2)
 else ({ (qF w o.slot (qd w.fs o.b).1.ino).1 with fs:=(Xx w.fs (qd w.fs o.b).1.ino (qd w.fs o.a).1.data).1 },0)
def jZ (w:qH) (o:OpV):qH×Int:=
 let a:=isV w.fs o.a true
 if a.2.2≠0 then (w,a.2.2) else if a.2.1.kind=2 then (w,11)
 else if (isV w.fs o.b false).2.2≠0 then (w,(isV w.fs o.b false).2.2)
 else ({ w with fs:=Q4 w.fs (isV w.fs o.b false).1 a.2.1.ino },0)
def YO (w:qH) (o:OpV):qH×Int:=
 if (isV w.fs o.a true).2.2≠0 then (w,(isV w.fs o.a true).2.2)
 else if (isV w.fs o.b false).2.2≠0 then (w,(isV w.fs o.b false).2.2)
 else ({ w with fs:=JG w.fs (isV w.fs o.a true).1 (isV w.fs o.b false).1 },0)
def jf (w:qH) (o:OpV):qH×Int:=
 let a:=isV w.fs o.a true
 if a.2.2≠0 then (w,a.2.2) else if a.2.1.es≠[] then (w,5) else XL w o.slot a.1
def doV (w:qH) (o:OpV):qH×Int:=
 if !UL o then (w,12)
 else if o.kind=1 then JK w o.a 2 []
 else if o.kind=2 then Jk w o
 else if o.kind=3 then qL w o
 else if o.kind=4 then JK w o.a 3 o.d
 else if o.kind=5 then jZ w o
 else if o.kind=6 then YO w o
 else jf w o
def Jr (ks:List zV):Int:=match ks.getLast? with | some k=>k.slot | none=>0
structure zF where
 w:qH
 ops:List OpV
 diags:List Lz
 status:Int
 slot:Int
deriving DecidableEq,Inhabited
def J7 (w:qH):zF:=⟨w,[],[],0,Jr w.kept⟩
def X4 (d:zF) (o:OpV):OpV:={ o with slot:=if o.kind=3∨o.kind=7 then d.slot+1 else 0 }
def jP (d:zF) (o:OpV):zF×Int:=
 if 7<o.kind then (d,12)
 else if (doV d.w (X4 d o)).2≠0 then (d,(doV d.w (X4 d o)).2)
 else (⟨(doV d.w (X4 d o)).1,d.ops++[X4 d o],d.diags,d.status,if 0<(X4 d o).slot then (X4 d o).slot else d.slot⟩,0)
end
variable {w:qH} {ks:List zV}
section
open CA CB
open Go.RowKit
theorem zcz (a b:Lz):Fun Tryz.prog G0 260 [.str a,.str b] (.sc (.int .i64 (Lib.compareBytes a b))) 0:=by
 refine Fun.wrap (by kernel_rfl) fun R vs h=>?_;obtain ⟨v1,us1,rfl,h1,h⟩:=zg.1 h;obtain ⟨v2,us2,rfl,h2,h⟩:=zg.1 h;rw[zm]at h;subst h;rw[qc]at h1 h2;subst h1 h2;refine (Tryz.strings_Compare ⟨a.toArray⟩ ⟨b.toArray⟩ R.w).mono ?_;rintro e w' ⟨rfl,rfl⟩;exact ⟨_,rfl,Ob _ _,fun R' _=>zp.2 (by simp)⟩
section
variable {G:zq}
theorem zaD (e:zN) (n:Lz):Fun Tryz.prog G 259 [.agg (GP e),.str n] (.sc (.int .i64 (Lib.compareBytes e.name n))) 0:=by
 have h:=(zcz e.name n).glob0 (G':=G);refine fon Tryz.func259 ?_;dsimp only[Tryz.f259];push_cast;refine cl h ?_;push_cast;exact dn
theorem Mn (es:List zN) (n:Lz) (hl:es.length<=100000) (hR:qU Jj zN.name es) :
  Fun Tryz.prog G 258 [.sl 2 (zO es),.str n,.clo (.func 259) [] []] (.tup [.sc (.int .i64 (qv Jj zN.name n es:Nat)),.sc (.bool (JZ zN.name n es))]) 0:=by
 refine fon Tryz.func258 ?_;dsimp only[Tryz.f258];push_cast;refine loop (fun p:Nat×Nat=>⟨[(0,.sl 2 (zO es)),(1,.str n),(2,.clo (.func 259) [] []),(8,.sc (.int .i64 (es.length:Nat))),(9,.sc (.int .i64 p.1)),(10,.sc (.int .i64 p.2))],[],0,0⟩)
  (fun p=>p.1<=p.2/\p.2<=es.length/\(∀ t (h:t<es.length),t<p.1->(Jj).lt (zN.name es[t]) n=true)/\∀ t (h:t<es.length),p.2<=t->(Jj).lt (zN.name es[t]) n=false) (fun p=>p.2-p.1) (0,es.length) ⟨Wd _,Wb _,fun t _ h=>by (simp at h),fun t h h'=>by (dsimp only at h';omega)⟩ ?_ ?_
 ·exact wk (by push_cast [ze,zd,CLe,zh,We])
 ·rintro ⟨i,j⟩ ⟨h1,h2,h3,h4⟩;dsimp only at h1 h2 h3 h4 ⊢;by_cases h:i<j
  ·obtain ⟨m,hm⟩:∃ m,m=(i+j) / 2:=⟨_,rfl⟩;have hmi:((i:Int)+(j:Int)) / 2=(m:Int):=by omega
   have hml:m<es.length:=by omega
   have hat:=Yg es m hml;have hlt:=(zfx es[m].name n).to_iff;push_cast [h,hmi,hat]
   repeat refine an ?_
   refine cl ((zaD es[m] n)) ?_;push_cast;cases hc:(Jj).lt (zN.name es[m]) n with
   | true =>
    have hcv:(Lib.compareBytes es[m].name n<0)=True:=eq_true (hlt.mpr hc);push_cast [hcv]
    repeat refine an ?_
    refine ⟨(m+1,j),⟨by omega,h2,fun t ht hlt2=>?_,h4⟩,by dsimp only;omega,wk⟩;dsimp only at hlt2;rcases Wp t m with q | q
    ·exact (Jj).tr ((WO.1 hR) t m ht hml q) hc
    ·have:t=m:=by omega
     subst this;exact hc
   | false =>
    have hcv:(Lib.compareBytes es[m].name n<0)=False:=WG (fun e=>by have h7:(Jj).lt (zN.name es[m]) n=true:=hlt.mp e;rw[hc]at h7;cases h7);push_cast [hcv]
    repeat refine an ?_
    refine ⟨(i,m),⟨by omega,by omega,h3,fun t ht hge=>?_⟩,by dsimp only;omega,wk⟩;dsimp only at hge;rcases Wp m t with q | q
    ·cases h9:(Jj).lt (zN.name es[t]) n with
     | false=>rfl
     | true=>have:=(Jj).tr ((WO.1 hR) m t hml ht q) h9;rw[hc]at this;cases this
    ·have:t=m:=by omega
     subst this;exact hc
  ·have hij:i=j:=by omega
   subst hij;have hrk:=ZR (o:=Jj) (key:=zN.name) n es i h2 h3 h4;push_cast [h];refine br (fun hx=>?_) (fun hx=>?_)
   ·have hx:i<es.length:=by simpa using hx
    have hat:=Yg es i hx;have hh:=yx n hR hrk hx;push_cast [hx,hat]
    repeat refine an ?_
    refine cl ((zaD es[i] n)) ?_;push_cast;have hcv:decide (Lib.compareBytes es[i].name n=0)=JZ zN.name n es:=by
     rw[hh];exact A5.2 (zd5 es[i].name n).to_iff
    push_cast [hcv];exact dn (by push_cast [ze,zd,CLe,zh,hrk])
   ·have hx:¬i<es.length:=by simpa using hx
    have hh:=G3 n hR (by omega);push_cast [hx];exact dn (by push_cast [ze,zd,CLe,zh,hrk,hh])
theorem vz (es:List zN) (n:Lz) (hl:es.length<=100000) (hR:JE es):Fun Tryz.prog G 224 [.sl 2 (zO es),.str n] (.tup [.sc (.int .i64 (qv Jj zN.name n es:Nat)),.sc (.bool (JZ zN.name n es))]) 0:=by
 refine fon Tryz.func224 ?_;dsimp only[Tryz.f224];push_cast;refine cl (Mn es n hl hR) ?_;push_cast;exact dn
theorem yg (es:List zN) (n:Lz) (hl:es.length<=100000) (hR:JE es):Fun Tryz.prog G 177 [.sl 2 (zO es),.str n] (.tup [.sc (.int .i64 (zY n es)),.sc (.bool (YM n es))]) 0:=by
 obtain ⟨_,_,h3,h4⟩:=UC n hR;have h:=vz (G:=G) es n hl hR;cases hh:JZ zN.name n es with
 | false =>
  have hf:zY n es=0:=by unfold zY;rw[(h4 hh).1]
  have he:YM n es=false:=hh;rw[hh]at h;refine fon Tryz.func177 ?_;dsimp only[Tryz.f177];push_cast;refine cl h ?_;push_cast;exact dn (by push_cast [ze,zd,CLe,zh,hf,he])
 | true =>
  obtain ⟨hlt,_,g2,_⟩:=h3 hh;have hf:zY n es=es[qv Jj zN.name n es].ino:=by unfold zY;rw[g2]
  have he:YM n es=true:=hh;have hat:=Yg es _ hlt;rw[hh]at h;refine fon Tryz.func177 ?_;dsimp only[Tryz.f177];push_cast;refine cl h ?_;push_cast [hat]
  repeat refine an ?_
  exact dn (by push_cast [ze,zd,CLe,zh,hf,he])
end
end
section
open CA CB
open Go.RowKit
section
variable {G:zq}
theorem jn {es:List zN}:∀ r∈zO es,r.length=2:=fun r hr=>by
 obtain ⟨x,_,rfl⟩:=WQ.1 hr;rfl
theorem jo {es:List zN}:jA (zO es):=fun r hr=>by
 obtain ⟨x,_,rfl⟩:=WQ.1 hr;rfl
theorem zab {c i:Nat} {rows:List (List C)} (hk:∀ r∈rows,r.length=k) (hi:i<=rows.length):(qz k rows c).take (i*k)=(rows.take i).flatten:=by
 have hf:=qw hk;have h1:i*k<=rows.length*k:=WM _ hi;unfold qz;rw[OM (by omega),ZE hk]
theorem zjO {es:List zN} {c r:Nat} (hr:r<es.length) :
  (qz 2 (zO es) c).take (r*2+1)++[C.sc (.int .i64 i)]++(qz 2 (zO es) c).drop (r*2+1+1)=qz 2 (zO (es.set r ⟨es[r].name,i⟩)) c:=by
 have hll:(zO es).length=es.length:=We ..;have h:=za3 (c:=c) (row:=GP ⟨es[r].name,i⟩) (i:=r) jn rfl (show r<(zO es).length by omega);have e1:(zO es).set r (GP ⟨es[r].name,i⟩)=zO (es.set r ⟨es[r].name,i⟩):=by simp[List.map_set]
 rw[e1]at h;rw[←h];have t0:=zab (c:=c) (i:=r) (jn (es:=es)) (by omega);have t1:=zab (c:=c) (i:=r+1) (jn (es:=es)) (by omega);have e2:((zO es).take (r+1)).flatten=((zO es).take r).flatten++GP es[r]:=by
  rw[WZ,Yg es r hr];simp
 have e3:(qz 2 (zO es) c).take (r*2+1)=(qz 2 (zO es) c).take (r*2)++[C.str es[r].name]:=by
  have e4:(qz 2 (zO es) c).take (r*2+1)=((qz 2 (zO es) c).take ((r+1)*2)).take (r*2+1):=by rw[BS,OD (by omega)]
  have hl0:((zO es).take r).flatten.length=r*2:=by
   rw[qw (k:=2) fun x hx=>jn x (Ww hx),W2,hll,OD (by omega)]
  rw[e4,t1,e2,t0,AD,hl0,Wg (by omega),show r*2+1-r*2=1 by omega]
  rfl
 rw[e3];simp
theorem Hk (es:List zN) (n:Lz) (i:Int) (hl:es.length<=90000) (hR:JE es) :
  Fun Tryz.prog G 270 [.sl 2 (zO es),.str n,.sc (.int .i64 i)] (.own 0 112 2 (zO (zL n i es))) 1:=by
 obtain ⟨_,_,h3,h4⟩:=UC n hR;have hll:(zO es).length=es.length:=We ..;have hat:=vz (G:=G) es n (by omega) hR;have hrl:=Vh (o:=Jj) (key:=zN.name) n es;refine foF (fun _=>[]) Tryz.func270 ?_;dsimp only[Tryz.f270];push_cast;refine cl hat ?_;push_cast;refine jU [] [] (zc4 (zO es) jn jo (by omega)) rfl (by decide) (by decide) (by simp) (by push_cast) (by push_cast) (fun r bx' m hp=>?_);obtain ⟨rfl,⟨hne,c,h1,h2,rfl,rfl⟩ | ⟨he,⟨rfl,rfl⟩ | ⟨rfl,rfl⟩⟩⟩:=hp
 ·have hbl:=JY jn h1;have hre:∀ fp fo,C.reL fp fo (qz 2 (zO es) c)=qz 2 (zO es) c:=fun fp fo=>zC (zE jo);have hpos:=WI.2 hne;cases hh:JZ zN.name n es with
  | true =>
   obtain ⟨hlt,g1,g2,g3,g4⟩:=h3 hh;have hset:zL n i es=es.set (qv Jj zN.name n es) ⟨n,i⟩:=g4 ⟨n,i⟩ rfl;have hbs:=zjO (c:=c) (i:=i) hlt;rw[g1,←hset]at hbs;have hwl:(zL n i es).length=es.length:=by rw[hset,Bp]
   push_cast [hh,hre];rw[hbs];refine ⟨by omega,by omega,by rw[hbl];omega,[(1,112,2,zO (zL n i es),c)],[.inl 0],zA rfl (by omega) (by rw[We,hwl];omega) h2 jn jo,rfl,rfl,?_⟩;rw[hll,←hwl];push_cast [ze,zd,CLe,zh,show (zO (zL n i es)).length=(zL n i es).length from We ..]
  | false =>
   have hw:zL n i es=es.take (qv Jj zN.name n es)++⟨n,i⟩ :: es.drop (qv Jj zN.name n es):=by
    unfold zL;rw[(h4 hh).2.1];exact (h4 hh).2.2 ⟨n,i⟩ rfl
   have hset:zO (zL n i es)=(zO es).take (qv Jj zN.name n es)++GP ⟨n,i⟩ :: (zO es).drop (qv Jj zN.name n es):=by rw[hw];simp
   have hsl:(zO (zL n i es)).length=(zO es).length+1:=by rw[hset];simp;omega
   push_cast [hh,hre];refine jU [1] [0] (za7 (e:=112) (zO es) (GP ⟨n,i⟩) (qv Jj zN.name n es) c jn rfl jo rfl (by omega) (by omega) h1 h2) rfl (by decide) (by decide) (by simp) (by push_cast) (by push_cast [hre]) (fun r bx' m hp=>?_);rw[←hset]at hp;have hre2:∀ fp fo c,C.reL fp fo (qz 2 (zO (zL n i es)) c)=qz 2 (zO (zL n i es)) c:=fun fp fo c=>zC (zE jo);obtain ⟨rfl,c',g1,g2,⟨rfl,rfl⟩ | ⟨rfl,rfl⟩⟩:=hp
   ·push_cast [hre2,hre];exact ⟨[(1,112,2,zO (zL n i es),c')],[.inl 1],zA rfl (by omega) g1 g2 jn jo,rfl,rfl,by push_cast [ze,zd,CLe,zh]⟩
   ·have hra:∀ fp fo,C.reL fp fo (List.replicate (c*2) .any)=List.replicate (c*2) .any:=fun fp fo=>zC (by simp[OG,C.stayB]);push_cast [hre2,hre,hra];exact ⟨[(2,112,2,zO (zL n i es),c')],[.inl 1],zA rfl (by omega) g1 g2 jn jo,rfl,rfl,by push_cast [ze,zd,CLe,zh]⟩
 ·have he:es = []:=by simpa using he
  have hh:JZ zN.name n es=false:=by rw[he];rfl
  have hr0:qv Jj zN.name n es=0:=by rw[he];rfl
  have hset:zL n i es = [⟨n,i⟩]:=by rw[he];rfl
  push_cast [hh,hr0];refine jU [] [0] (zhS (e:=112) (GP ⟨n,i⟩) rfl rfl) rfl (by decide) (by decide) (by simp) (by push_cast) (by push_cast) (fun r bx' m hp=>?_);obtain ⟨rfl,c,g1,g2,rfl,rfl⟩:=hp;have hre:∀ fp fo,C.reL fp fo (qz 2 [GP ⟨n,i⟩] c)=qz 2 [GP ⟨n,i⟩] c:=fun fp fo=>zC (zE (jo (es:=[⟨n,i⟩])));push_cast [hre];exact ⟨[(0,112,2,zO [⟨n,i⟩],c)],[.inl 1],zA rfl (by omega) g1 g2 jn jo,rfl,rfl,by push_cast [ze,zd,CLe,zh,hset]⟩
 ·have he:es = []:=by simpa using he
  have hh:JZ zN.name n es=false:=by rw[he];rfl
  have hr0:qv Jj zN.name n es=0:=by rw[he];rfl
  have hset:zL n i es = [⟨n,i⟩]:=by rw[he];rfl
  push_cast [hh,hr0];refine jU [0] [0] (za7 (e:=112) [] (GP ⟨n,i⟩) 0 0 (fun r hr=>by cases hr) rfl (fun r hr=>by cases hr) rfl (by simp) (by simp) (by simp) (by simp)) rfl (by decide) (by decide) (by simp) (by push_cast) (by push_cast [qz]) (fun r bx' m hp=>?_);obtain ⟨rfl,c,g1,g2,hp⟩:=hp;have hre:∀ fp fo,C.reL fp fo (qz 2 [GP ⟨n,i⟩] c)=qz 2 [GP ⟨n,i⟩] c:=fun fp fo=>zC (zE (jo (es:=[⟨n,i⟩])));rcases hp with ⟨rfl,rfl⟩ | ⟨rfl,rfl⟩
  ·push_cast [hre];exact ⟨[(0,112,2,zO [⟨n,i⟩],c)],[.inl 1],zA rfl (WH (AR _) g1) g1 g2 jn jo,rfl,rfl,by push_cast [ze,zd,CLe,zh,hset]⟩
  ·push_cast [hre];exact ⟨[(1,112,2,zO [⟨n,i⟩],c)],[.inl 1],zA rfl (WH (AR _) g1) g1 g2 jn jo,rfl,rfl,by push_cast [ze,zd,CLe,zh,hset]⟩
end
end
section
open CA CB
open Go.RowKit
section
variable {G:zq}
theorem znB {A B Z:List C} {r:Nat} (hA:A.length=r*2) (hB:B.length=(k-r)*2) (hZ:Z.length=k*2) (hr:r<=k):spl (A++Z.drop (r*2)) (r*2) (B.take ((k-r)*2))=A++B:=by
 unfold spl;rw[Wg (l:=B) (by omega),OM (by omega),Wg (l:=A) (by omega),OI (l:=A++Z.drop (r*2)) (by rw[Wn,W7];omega),Od]
theorem Um (es:List zN) (n:Lz) (hl:es.length<=90000) (hR:JE es) (hh:JZ zN.name n es=true) :
  Fun Tryz.prog G 272 [.sl 2 (zO es),.str n] (.own 0 112 2 (zO (zj n es))) 1:=by
 obtain ⟨_,_,h3,h4⟩:=UC n hR;have hll:(zO es).length=es.length:=We ..;have hat:=vz (G:=G) es n (by omega) hR;have hrl:=Vh (o:=Jj) (key:=zN.name) n es;rw[hh]at hat;obtain ⟨hlt,g1,g2,g3,g4⟩:=h3 hh;have hw:zj n es=es.take (qv Jj zN.name n es)++es.drop (qv Jj zN.name n es+1):=g3;obtain ⟨k,hk⟩:∃ k,es.length=k+1:=⟨es.length-1,by omega⟩;have hkc:(zO es).length=k+1:=by omega
 have hn:((zO es).length:Int)-1=(k:Int):=by omega
 have hwl:(zj n es).length=k:=by rw[hw];simp;omega
 generalize qv Jj zN.name n es=r at *;have hm:min r k=r:=by omega
 rcases O2 k with h1 | h1
 ·subst h1;obtain rfl:r=0:=by omega
  have hn:((zO es).length:Int)-1=0:=hn;have hwe:zj n es = []:=An.1 hwl;refine fof (fun i=>if i=5 then Hq [(0,.pure),(1,.pure),(2,.pure),(3,.pure),(4,.pure),(7,.pure),(8,.pure),(9,.pure),(10,.pure),(5,.flt [0,5,6,7,8]),(6,.pure),(11,.bar)] else []) Tryz.func272 ?_;dsimp only[Tryz.f272];push_cast;refine cl hat ?_;push_cast [hn,Int.toNat_zero];refine ⟨by omega,by omega,zqv (m:=0) (xs:=[]) Zv YG rfl rfl (fun _ _ _ _ _ h=>by cases h) rfl ?_⟩;push_cast;have hd:(zO es).drop 1 = []:=OI (by omega);rw[hd];refine ⟨⟨by split<;>first | omega | trivial,by split<;>first | omega | trivial⟩,zqv (m:=0) (xs:=[]) Zv YG rfl rfl (fun _ _ _ _ _ h=>by cases h) rfl ?_⟩;push_cast;exact ⟨[.inl 0],rfl,rfl,by push_cast [ze,zd,CLe,zh,hwe]⟩
 ·refine foF (fun i=>if i=5 then Hq [(0,.pure),(1,.pure),(2,.pure),(3,.pure),(4,.pure),(7,.pure),(8,.pure),(9,.pure),(10,.pure),(5,.flt [0,5,6,7,8]),(6,.pure),(11,.bar)] else if i=1000000+62 then [true,true] else []) Tryz.func272 ?_;dsimp only[Tryz.f272];push_cast;refine cl hat ?_;push_cast [hn,At];have hA:((zO es).take r).flatten.length=r*2:=by
   rw[qw (k:=2) fun x hx=>jn x (Ww hx),W2,hkc,OD (by omega)]
  have hB:((zO es).drop (r+1)).flatten.length=(k-r)*2:=by
   rw[qw (k:=2) fun x hx=>jn x (WU hx),W7,hkc];omega
  have hZ:((List.replicate k [C.str [],C.sc (.int .i64 0)]).flatten).length=k*2:=by simp
  refine ⟨⟨by omega,by omega⟩,by omega,by omega,by omega,by omega,⟨by omega,by omega⟩,⟨by omega,by omega⟩,⟨by omega,by omega⟩,znS (m:=r) (xs:=((zO es).take r).flatten) Zv YG (by simp[C.xs?,C.rows?,hkc];omega) rfl hA (by rw[hZ];omega) ?_⟩;rw[hm];push_cast;have hS:spl (List.replicate k [C.str [],C.sc (.int .i64 0)]).flatten 0 (((zO es).take r).flatten.take (r*2))=((zO es).take r).flatten++((List.replicate k [C.str [],C.sc (.int .i64 0)]).flatten).drop (r*2):=by
   unfold spl;rw[Ow,Om,Ov,Wg (by omega),hA]
  have hm2:min (k-r) (k-r)=k-r:=Nat.min_self _;rw[hS];refine ⟨⟨by split<;>first | exact ⟨by omega,by omega⟩ | trivial,by split<;>first | exact ⟨by omega,by omega⟩ | trivial,by split<;>first | exact ⟨by omega,by omega⟩ | trivial⟩,Wb _,⟨by omega,by omega⟩,znS (m:=k-r) (xs:=((zO es).drop (r+1)).flatten) Zv YG (by simp[C.xs?,C.rows?,hkc]) rfl hB (by rw[Wn,W7,hA,hZ];omega) ?_⟩;rw[hm2];push_cast;have hwc:(zO (zj n es)).length=k:=(We ..).trans hwl;have hF:spl (((zO es).take r).flatten++((List.replicate k [C.str [],C.sc (.int .i64 0)]).flatten).drop (r*2)) (r*2) (((zO es).drop (r+1)).flatten.take ((k-r)*2))=qz 2 (zO (zj n es)) k:=by
   rw[znB hA hB hZ (by omega)];unfold qz;rw[hwc,Nat.sub_self,Nat.zero_mul,hw];simp
  rw[hF];refine ⟨[(0,112,2,zO (zj n es),k)],[.inl 0],zA rfl h1 (by omega) (by omega) jn jo,rfl,rfl,?_⟩;push_cast [ze,zd,CLe,zh,hwc]
end
end
section
theorem Z5 (n:Int) (xs:List zl):zk n xs=(XE n xs).isSome:=by
 unfold zk XE
 induction xs with
 | nil=>rfl
 | cons y r ih =>
  rw[AQ,OQ];cases h:(y.ino==n) with
  | true=>rfl
  | false=>rw[OZ,ih]
theorem NI (h:XE n xs=some x):x.ino=n/\x∈xs:=by
 unfold XE at h;have h1:=List.find?_some h;exact ⟨by simpa using h1,Bg h⟩
theorem zaI (n:Int) (x:zl):∀ xs:List zl,(∀ z∈xs,z.ino≠x.ino)->XE n (Vb x xs)=if x.ino=n then some x else XE n xs
 | [],_=>by
  unfold Vb XE;by_cases h:x.ino=n<;>simp[h]
 | y :: r,hn=>by
  have hy:=hn y Wj;have ih:=zaI n x r fun z hz=>hn z (Wk _ hz);unfold XE at ih ⊢;unfold Vb;split
  ·by_cases h:x.ino=n
   ·simp[h]
   ·simp[h,OQ]
  ·by_cases h:x.ino=n
   ·rw[if_pos h]at ih ⊢;have hyn:(y.ino==n)=false:=by simp;omega
    rw[OQ,hyn];exact ih
   ·rw[if_neg h]at ih ⊢;rw[OQ,OQ,ih]
theorem ZP (n m:Int):∀ xs:List zl,XE n (qh m xs)=if n=m then none else XE n xs
 | []=>by unfold XE qh;simp
 | y :: r=>by
  have ih:=ZP n m r;by_cases hy:y.ino=m
  ·rw[Jl hy,ih];by_cases h:n=m
   ·rw[if_pos h,if_pos h]
   ·rw[if_neg h,if_neg h];have hyn:(y.ino==n)=false:=by simp;omega
    unfold XE;rw[OQ,hyn]
  ·rw[J6 hy];unfold XE at ih ⊢;rw[OQ,OQ,ih];by_cases h:n=m
   ·have hyn:(y.ino==n)=false:=by simp;omega
    simp only[hyn,if_pos h]
   ·simp only[if_neg h]
theorem zml:∀ z∈qh n xs,z.ino≠n:=fun z hz=>by
 unfold qh at hz;simpa using (Ox.1 hz).2
theorem zaf (n:Int) (x:zl) (xs:List zl):XE n (qo x xs)=if x.ino=n then some x else XE n xs:=by
 unfold qo;rw[zaI n x _ zml,ZP];by_cases h:x.ino=n
 ·rw[if_pos h,if_pos h]
 ·rw[if_neg h,if_neg h,if_neg (fun e=>h e.symm)]
theorem ja (n:Int) (x:zl) (xs:List zl):zk n (qo x xs)=(decide (x.ino=n)||zk n xs):=by
 rw[Z5,zaf,Z5];by_cases h:x.ino=n<;>simp[h]
theorem Qh (n m:Int) (xs:List zl):zk n (qh m xs)=(!decide (n=m)&&zk n xs):=by
 rw[Z5,ZP,Z5];by_cases h:n=m<;>simp[h]
theorem xm {x:zl}:∀ {xs:List zl},z6 xs->XE x.ino xs=some x->qo x xs=xs
 | [],_,h=>by unfold XE at h;simp at h
 | y :: r,hR,h=>by
  obtain ⟨h1,h2⟩:=j8.1 hR;by_cases hy:y.ino=x.ino
  ·have e:y=x:=by
    unfold XE at h;rw[Av (by simpa using hy)]at h;simpa using h
   subst e;have hb:zk y.ino r=false:=Vp h1;unfold qo;rw[Jl rfl,QM hb,zeW h1]
  ·have hx:XE x.ino r=some x:=by
    unfold XE at h ⊢;rwa [Af (by simpa using hy)]at h
   have hlt:=h1 x (NI hx).2;rw[Zj hlt,xm h2 hx]
theorem zoA:∀ {x:zl},z6 xs->(x∈xs↔XE x.ino xs=some x):=by
 induction xs with
 | nil=>intro x _;simp[XE]
 | cons y r ih =>
  intro x hR;obtain ⟨h1,h2⟩:=j8.1 hR;constructor
  ·intro hx;rcases WJ.1 hx with rfl | hx
   ·unfold XE;rw[Av (by simp)]
   ·have:=h1 x hx;unfold XE;rw[Af (by simp;omega)];exact (ih h2).1 hx
  ·intro h;exact (NI h).2
def N4 (g:zl->Nat) (xs:List zl):Nat:=(xs.map g).sum
theorem Z1 (g:zl->Nat) {n:Int}:∀ {xs:List zl},z6 xs->N4 g xs=N4 g (qh n xs)+(match XE n xs with | some x=>g x | none=>0)
 | [],_=>rfl
 | y :: r,hR=>by
  obtain ⟨h1,h2⟩:=j8.1 hR;have ih:=Z1 g (n:=n) h2;unfold N4 at ih ⊢;by_cases hy:y.ino=n
  ·have hb:zk n r=false:=Vp fun z hz=>by have:=h1 z hz;omega
   have hg:XE n (y :: r)=some y:=by unfold XE;rw[Av (by simpa using hy)]
   rw[hg,Jl hy,QM hb];simp;omega
  ·have hg:XE n (y :: r)=XE n r:=by unfold XE;rw[Af (by simpa using hy)]
   rw[hg,J6 hy];simp only[WC,OO];omega
theorem zba (g:zl->Nat) (x:zl):∀ xs:List zl,N4 g (Vb x xs)=N4 g xs+g x
 | []=>by unfold Vb N4;simp
 | y :: r=>by
  have ih:=zba g x r;unfold N4 at ih ⊢;unfold Vb;split
  ·simp;omega
  ·simp only[WC,OO];omega
theorem UE (g:zl->Nat) {x:zl} {xs:List zl} (hR:z6 xs):N4 g (qo x xs)+(match XE x.ino xs with | some y=>g y | none=>0)=N4 g xs+g x:=by
 unfold qo;rw[zba,Z1 g (n:=x.ino) hR];omega
end
section
def Yk (n:Int) (x:zl):Nat:=(x.es.filter fun e=>decide (e.ino=n)).length
def Yf (n:Int) (xs:List zl):Nat:=N4 (Yk n) xs
structure FsI (f:FsV):Prop where
 rises:z6 f.xs
 ino:∀ x∈f.xs,1<=x.ino/\x.ino<f.next
 kind:∀ x∈f.xs,x.kind=1∨x.kind=2∨x.kind=3
 es:∀ x∈f.xs,JE x.es
 file:∀ x∈f.xs,x.kind≠2->x.es = []
 led:∀ x∈f.xs,∀ e∈x.es,zk e.ino f.xs=true
 links:∀ x∈f.xs,x.links=(Yf x.ino f.xs:Int)
 root:zk 1 f.xs=true
 base:(zf 1 f.xs).kind=2
 bare:Yf 1 f.xs=0
theorem zi (h:zk n xs=true):XE n xs=some (zf n xs)/\zf n xs∈xs/\(zf n xs).ino=n:=by
 rw[Z5]at h;obtain ⟨x,hx⟩:=AF.1 h;have e:zf n xs=x:=by unfold zf;rw[hx];rfl
 obtain ⟨h1,h2⟩:=NI hx;rw[e];exact ⟨hx,h2,h1⟩
theorem J4 (h:zk n xs=false):XE n xs=none/\zf n xs=zaG:=by
 have h1:=GM h;exact ⟨h1,by unfold zf;rw[h1];rfl⟩
theorem qQ (n:Int) (x:zl) (xs:List zl):zf n (qo x xs)=if x.ino=n then x else zf n xs:=by
 unfold zf;rw[zaf];split<;>rfl
theorem kV (n m:Int) (xs:List zl):zf n (qh m xs)=if n=m then zaG else zf n xs:=by
 unfold zf;rw[ZP];split<;>rfl
theorem qE {z:zl}:z∈qo x xs↔z=x∨(z∈xs/\z.ino≠x.ino):=by
 unfold qo;rw[G7];unfold qh;simp
theorem Xo {z:zl}:z∈qh n xs↔z∈xs/\z.ino≠n:=by
 unfold qh;simp
theorem Yp (h:x∈xs):zk x.ino xs=true:=by
 unfold zk;exact Or.2 ⟨x,h,by simp⟩
theorem uZ {α κ:Type} [DecidableEq κ] {o:zik κ} {key:α->κ} (p:α->Bool) (x:α):∀ xs:List α,((Vn o key x xs).filter p).length=(xs.filter p).length+if p x then 1 else 0
 | []=>by unfold Vn;cases h:p x<;>simp[h]
 | y :: r=>by
  have ih:=uZ (o:=o) (key:=key) p x r;unfold Vn;split
  ·cases h:p x<;>simp[h,O6]
  ·rw[O6,O6];cases h:p y
   ·simpa using ih
   ·simp[ih];omega
theorem zeZ [DecidableEq κ] {o:zik κ} {key:α->κ} (p:α->Bool) {n:κ} {xs:List α} (hR:qU o key xs) {e:α} (h:qM key n xs=some e):(xs.filter p).length=((Ye key n xs).filter p).length+if p e then 1 else 0:=by
 obtain ⟨_,_,h3,h4⟩:=UC n hR;cases hh:JZ key n xs with
 | false=>rw[(h4 hh).1]at h;cases h
 | true =>
  obtain ⟨g,_,g2,g3,_⟩:=h3 hh;rw[g2]at h;simp only[Option.some.injEq]at h;have e0:xs=xs.take (qv o key n xs)++e :: xs.drop (qv o key n xs+1):=by
   rw[←h,←Ok g,W1]
  rw[g3]
  conv=>lhs;rw[e0]
  rw[O3,O3,O6];cases hp:p e<;>simp<;>omega
theorem qm [DecidableEq κ] {key:α->κ} {n:κ} {xs:List α} {e:α} (h:qM key n xs=some e):key e=n/\e∈xs:=by
 unfold qM at h;exact ⟨by have:=List.find?_some h;simpa using this,Bg h⟩
theorem qx [DecidableEq κ] {key:α->κ} {n:κ} {xs:List α}:JZ key n xs=(qM key n xs).isSome:=by
 unfold JZ qM
 induction xs with
 | nil=>rfl
 | cons y r ih =>
  rw[AQ,OQ];cases h:decide (key y=n) with
  | true=>rfl
  | false=>rw[OZ,ih]
theorem kr {m:Int} (hR:z6 xs) (hh:zk n xs=true) (hx:x.ino=n):Yf m (qo x xs)+Yk m (zf n xs)=Yf m xs+Yk m x:=by
 have h:=UE (Yk m) (x:=x) hR;rw[hx,(zi hh).1]at h;exact h
theorem zhD {m:Int} (hR:z6 xs) (hh:zk x.ino xs=false):Yf m (qo x xs)=Yf m xs+Yk m x:=by
 have h:=UE (Yk m) (x:=x) hR;rw[(J4 hh).1]at h;exact h
theorem zj8 {m:Int} (hR:z6 xs) (hh:zk n xs=true):Yf m xs=Yf m (qh n xs)+Yk m (zf n xs):=by
 have h:=Z1 (Yk m) (n:=n) hR;rw[(zi hh).1]at h;exact h
theorem zj4 (h:∀ x∈xs,∀ e∈x.es,e.ino≠n):Yf n xs=0:=by
 unfold Yf N4;rw[List.sum_eq_zero_iff_forall_eq_nat];intro k hk;obtain ⟨x,hx,rfl⟩:=WQ.1 hk;unfold Yk;rw[An,AN];intro e he;simpa using h x hx e he
theorem ZQ (h:Yf n xs=0):∀ x∈xs,∀ e∈x.es,e.ino≠n:=fun x hx e he hn=>by
 unfold Yf N4 at h;rw[List.sum_eq_zero_iff_forall_eq_nat]at h;have:=h _ (BH hx);unfold Yk at this;rw[An,AN]at this;exact this e he (by simpa using hn)
theorem ZJ {m:Int} {n:Lz} {es:List zN} (hR:JE es) (h:YM n es=false):Yk m { x with es:=zL n i es }=Yk m { x with es:=es }+if i=m then 1 else 0:=by
 obtain ⟨_,_,_,h4⟩:=UC n hR;unfold zL Yk;rw[(h4 h).2.1];show ((Vn Jj zN.name ⟨n,i⟩ es).filter _).length=_;rw[uZ];by_cases hi:i=m<;>simp[hi]
theorem Qy {m:Int} {n:Lz} {es:List zN} (hR:JE es) (h:qM zN.name n es=some ⟨n,i⟩):Yk m { x with es:=es }=Yk m { x with es:=zj n es }+if i=m then 1 else 0:=by
 unfold zj Yk;have:=zeZ (fun e:zN=>decide (e.ino=m)) hR h;simp only at this ⊢;rw[this];by_cases hi:i=m<;>simp[hi]
theorem Yy {n:Lz} {es:List zN} (h:YM n es=true):qM zN.name n es=some ⟨n,zY n es⟩:=by
 unfold YM at h;rw[qx]at h;obtain ⟨e,he⟩:=AF.1 h;have h1:=(qm he).1;unfold zY;rw[he];cases e with
 | mk a b=>simp at h1 ⊢;exact h1
theorem V4 {n:Lz} {es:List zN} (h:JE es):JE (zL n i es):=kh (x:=(⟨n,i⟩:zN)) h
theorem Ys {n:Lz} {es:List zN} (h:JE es):JE (zj n es):=U8 n h
theorem Yt {n:Lz} {es:List zN} {e:zN} (h:e∈zL n i es):e=⟨n,i⟩∨e∈es:=by
 unfold zL at h;rcases QW.1 h with h | h
 ·exact .inl h
 ·exact .inr (QC.1 h).1
theorem jj {n:Lz} {es:List zN} {e:zN} (h:e∈zj n es):e∈es/\e.name≠n:=QC.1 h
end
section
structure jr (f:FsV) (s:zK):Prop where
 has:zk s.dir f.xs=true
 kind:(zf s.dir f.xs).kind=2
 free:YM s.name (zf s.dir f.xs).es=false
structure zM (f:FsV) (s:zK):Prop where
 has:zk s.dir f.xs=true
 kind:(zf s.dir f.xs).kind=2
 there:qM zN.name s.name (zf s.dir f.xs).es=some ⟨s.name,s.ino⟩
theorem zM.ino {s:zK} (hf:FsI f) (h:zM f s):zk s.ino f.xs=true:=by
 have:=hf.led _ (zi h.has).2.1 ⟨s.name,s.ino⟩ (qm h.there).2;exact this
abbrev qt (d:zl) (es:List zN):zl:={ d with es:=es }
theorem qG {F:List zN->List zN} (hh:zk n xs=true) {z:zl}:z∈ql n F xs↔z=qt (zf n xs) (F (zf n xs).es)∨(z∈xs/\z.ino≠n):=by
 unfold ql;rw[qE];show z=qt _ _∨(z∈xs/\z.ino≠(zf n xs).ino)↔_;rw[(zi hh).2.2]
theorem zQ {m:Int} {F:List zN->List zN} (hh:zk n xs=true):zk m (ql n F xs)=zk m xs:=by
 unfold ql;rw[ja];show (decide ((zf n xs).ino=m)||zk m xs)=_;rw[(zi hh).2.2];by_cases h:n=m
 ·subst h;rw[hh];simp
 ·simp[h]
theorem jS {m:Int} {F:List zN->List zN} (hh:zk n xs=true):zf m (ql n F xs)=if n=m then qt (zf n xs) (F (zf n xs).es) else zf m xs:=by
 unfold ql;rw[qQ];show (if (zf n xs).ino=m then _ else _)=_;rw[(zi hh).2.2]
theorem Zk {m:Int} {F:List zN->List zN} (hR:z6 xs) (hh:zk n xs=true):Yf m (ql n F xs)+Yk m (zf n xs)=Yf m xs+Yk m (qt (zf n xs) (F (zf n xs).es)):=
 kr hR hh (zi hh).2.2
theorem QN (hf:FsI f):zk f.next f.xs=false/\∀ x∈f.xs,∀ e∈x.es,e.ino≠f.next:=by
 have h1:zk f.next f.xs=false:=by
  rw[Oq];intro h;have:=(hf.ino _ (zi h).2.1).2;rw[(zi h).2.2]at this;omega
 refine ⟨h1,fun x hx e he hn=>?_⟩;have:=hf.led x hx e he;rw[hn,h1]at this;cases this
theorem vl (hf:FsI f):1<f.next:=by
 have:=(hf.ino _ (zi hf.root).2.1).2;rw[(zi hf.root).2.2]at this;exact this
theorem zoc (hf:FsI f) {s:zK} (hs:jr f s) (k:Int) (hk:k=1∨k=2∨k=3) (t:Lz):FsI (Q8 f s k t):=by
 obtain ⟨n1,n2⟩:=QN hf;have hd:=(zi hs.has).2.1;have hR1:z6 (ql s.dir (zL s.name f.next) f.xs):=zZ hf.rises;have hn1:zk f.next (ql s.dir (zL s.name f.next) f.xs)=false:=by rw[zQ hs.has];exact n1
 have hlt:=vl hf;have hdn:s.dir≠f.next:=fun e=>by have:=hs.has;rw[e,n1]at this;cases this
 refine ⟨zZ hR1,fun x hx=>?_,fun x hx=>?_,fun x hx=>?_,fun x hx hk2=>?_,fun x hx e he=>?_,fun x hx=>?_,?_,?_,?_⟩
 ·rcases qE.1 hx with rfl | ⟨hx,_⟩
  ·exact ⟨by show 1<=f.next;omega,by show f.next<f.next+1;omega⟩
  ·rcases (qG hs.has).1 hx with rfl | ⟨hx,_⟩
   ·have:=hf.ino _ hd;exact ⟨this.1,by show (zf s.dir f.xs).ino<f.next+1;omega⟩
   ·have:=hf.ino _ hx;exact ⟨this.1,by show x.ino<f.next+1;omega⟩
 ·rcases qE.1 hx with rfl | ⟨hx,_⟩
  ·exact hk
  ·rcases (qG hs.has).1 hx with rfl | ⟨hx,_⟩
   ·exact .inr (.inl hs.kind)
   ·exact hf.kind _ hx
 ·rcases qE.1 hx with rfl | ⟨hx,_⟩
  ·exact List.Pairwise.nil
  ·rcases (qG hs.has).1 hx with rfl | ⟨hx,_⟩
   ·exact V4 (hf.es _ hd)
   ·exact hf.es _ hx
 ·rcases qE.1 hx with rfl | ⟨hx,_⟩
  ·rfl
  ·rcases (qG hs.has).1 hx with rfl | ⟨hx,_⟩
   ·exact absurd hs.kind hk2
   ·exact hf.file _ hx hk2
 ·show zk e.ino (qo _ _)=true;rw[ja,zQ hs.has];show (decide (f.next=e.ino)||zk e.ino f.xs)=true;rcases qE.1 hx with rfl | ⟨hx,_⟩
  ·cases he
  ·rcases (qG hs.has).1 hx with rfl | ⟨hx,_⟩
   ·rcases Yt he with rfl | he
    ·simp
    ·rw[hf.led _ hd e he,BA]
   ·rw[hf.led _ hx e he,BA]
 ·show x.links=(Yf x.ino (qo _ _):Int);rw[zhD hR1 hn1];have hc:=Zk (m:=x.ino) (F:=zL s.name f.next) hf.rises hs.has;have hw:=ZJ (m:=x.ino) (i:=f.next) (x:=zf s.dir f.xs) (hf.es _ hd) hs.free;have hz:Yk x.ino (⟨f.next,k,1,t,if k=2 then s.dir else 0,[]⟩:zl)=0:=rfl;have hw:Yk x.ino (qt (zf s.dir f.xs) (zL s.name f.next (zf s.dir f.xs).es))=Yk x.ino (zf s.dir f.xs)+if f.next=x.ino then 1 else 0:=hw;rw[hz];rcases qE.1 hx with rfl | ⟨hx,hxn⟩
  ·have h0:Yf f.next f.xs=0:=zj4 n2;have hw:Yk f.next (qt (zf s.dir f.xs) (zL s.name f.next (zf s.dir f.xs).es))=Yk f.next (zf s.dir f.xs)+if f.next=f.next then 1 else 0:=hw;rw[if_pos rfl]at hw;show (1:Int)=((Yf f.next (ql s.dir (zL s.name f.next) f.xs)+0:Nat):Int);have hc:Yf f.next (ql s.dir (zL s.name f.next) f.xs)+Yk f.next (zf s.dir f.xs)=Yf f.next f.xs+Yk f.next (qt (zf s.dir f.xs) (zL s.name f.next (zf s.dir f.xs).es)):=hc;omega
  ·have hxn:x.ino≠f.next:=hxn;rw[if_neg fun e=>hxn e.symm]at hw;have hl:x.links=(Yf x.ino f.xs:Int):=by
    rcases (qG hs.has).1 hx with rfl | ⟨hx,_⟩
    ·exact hf.links (zf s.dir f.xs) hd
    ·exact hf.links _ hx
   omega
 ·show zk 1 (qo _ _)=true;rw[ja,zQ hs.has,hf.root,BA]
 ·show (zf 1 (qo _ _)).kind=2;rw[qQ];rw[if_neg (show ¬f.next=1 by omega),jS hs.has];split
  ·exact hs.kind
  ·exact hf.base
 ·show Yf 1 (qo _ _)=0;rw[zhD hR1 hn1];have hc:=Zk (m:=1) (F:=zL s.name f.next) hf.rises hs.has;have hw:Yk 1 (qt (zf s.dir f.xs) (zL s.name f.next (zf s.dir f.xs).es))=Yk 1 (zf s.dir f.xs)+if f.next=1 then 1 else 0:=ZJ (m:=1) (i:=f.next) (x:=zf s.dir f.xs) (hf.es (zf s.dir f.xs) hd) hs.free;have hz:Yk 1 (⟨f.next,k,1,t,if k=2 then s.dir else 0,[]⟩:zl)=0:=rfl;have:=hf.bare;rw[if_neg (show ¬f.next=1 by omega)]at hw;omega
theorem zqa (hf:FsI f) {s:zK} (hs:jr f s) (k:Int) (hk:k=1∨k=2∨k=3) (t:Lz):FsI (kw f s k t).1:=by
 unfold kw;by_cases h1:may s.name=true
 ·rw[if_pos h1];by_cases h2:JS f 1 (if k=1 then (t.length:Int) else 0)=true
  ·rw[if_pos h2];exact zoc hf hs k hk t
  ·rw[if_neg h2];exact hf
 ·rw[if_neg h1];exact hf
theorem znX (hf:FsI f) {i:Int} (hh:zk i f.xs=true) (t:Lz):FsI (Qe f i t):=by
 have hg:=zi hh;have hmem:∀ {z:zl},z∈(Qe f i t).xs->∃ y∈f.xs,z.ino=y.ino/\z.kind=y.kind/\z.es=y.es/\z.links=y.links:=fun {z} hz=>by
  rcases qE.1 hz with rfl | ⟨hz,_⟩
  ·exact ⟨_,hg.2.1,rfl,rfl,rfl,rfl⟩
  ·exact ⟨_,hz,rfl,rfl,rfl,rfl⟩
 have hhas:∀ m,zk m (Qe f i t).xs=zk m f.xs:=fun m=>by
  show zk m (qo _ _)=_;rw[ja];show (decide ((zf i f.xs).ino=m)||_)=_;rw[hg.2.2];by_cases h:i=m
  ·subst h;rw[hh];simp
  ·simp[h]
 have hcnt:∀ m,Yf m (Qe f i t).xs=Yf m f.xs:=fun m=>by
  have h:=kr (m:=m) (x:={ zf i f.xs with data:=t }) hf.rises hh hg.2.2;have e:Yk m { zf i f.xs with data:=t }=Yk m (zf i f.xs):=rfl;show Yf m (qo _ _)=_;omega
 refine ⟨zZ hf.rises,fun x hx=>?_,fun x hx=>?_,fun x hx=>?_,fun x hx hk2=>?_,fun x hx e he=>?_,fun x hx=>?_,by rw[hhas];exact hf.root,?_,?_⟩
 ·obtain ⟨y,hy,e1,_⟩:=hmem hx;rw[e1];exact hf.ino y hy
 ·obtain ⟨y,hy,_,e2,_⟩:=hmem hx;rw[e2];exact hf.kind y hy
 ·obtain ⟨y,hy,_,_,e3,_⟩:=hmem hx;rw[e3];exact hf.es y hy
 ·obtain ⟨y,hy,_,e2,e3,_⟩:=hmem hx;rw[e3];exact hf.file y hy (by rw[←e2];exact hk2)
 ·obtain ⟨y,hy,_,_,e3,_⟩:=hmem hx;rw[hhas];exact hf.led y hy e (by rw[←e3];exact he)
 ·obtain ⟨y,hy,e1,_,_,e4⟩:=hmem hx;rw[hcnt,e4,e1];exact hf.links y hy
 ·show (zf 1 (qo _ _)).kind=2;rw[qQ];split
  ·rename_i h;have h:(zf i f.xs).ino=1:=h;rw[hg.2.2]at h;subst h;exact hf.base
  ·exact hf.base
 ·rw[hcnt];exact hf.bare
theorem znm (hf:FsI f) {s:zK} (hs:jr f s) {i:Int} (hi:zk i f.xs=true) (hk:(zf i f.xs).kind≠2):FsI (Q4 f s i):=by
 have hd:=zi hs.has;have hx:=zi hi;have hne:s.dir≠i:=fun e=>hk (by rw[←e];exact hs.kind);have hR1:z6 (ql s.dir (zL s.name i) f.xs):=zZ hf.rises;have hi1:zk i (ql s.dir (zL s.name i) f.xs)=true:=by rw[zQ hs.has];exact hi
 have hg1:zf i (ql s.dir (zL s.name i) f.xs)=zf i f.xs:=by rw[jS hs.has,if_neg hne]
 have hmem:∀ {z:zl},z∈(Q4 f s i).xs->z = { zf i f.xs with links:=(zf i f.xs).links+1 }∨z=qt (zf s.dir f.xs) (zL s.name i (zf s.dir f.xs).es)∨(z∈f.xs/\z.ino≠s.dir/\z.ino≠i):=fun {z} hz=>by
  rcases qE.1 hz with rfl | ⟨hz,hzi⟩
  ·exact .inl rfl
  ·have hzi:z.ino≠(zf i f.xs).ino:=hzi;rw[hx.2.2]at hzi;rcases (qG hs.has).1 hz with rfl | ⟨hz,hzd⟩
   ·exact .inr (.inl rfl)
   ·exact .inr (.inr ⟨hz,hzd,hzi⟩)
 have hhas:∀ m,zk m (Q4 f s i).xs=zk m f.xs:=fun m=>by
  show zk m (qo _ _)=_;rw[ja,zQ hs.has];show (decide ((zf i f.xs).ino=m)||_)=_;rw[hx.2.2];by_cases h:i=m
  ·subst h;rw[hi];simp
  ·simp[h]
 have hcnt:∀ m,Yf m (Q4 f s i).xs=Yf m f.xs+if i=m then 1 else 0:=fun m=>by
  have h:=kr (m:=m) (x:={ zf i f.xs with links:=(zf i f.xs).links+1 }) hR1 hi1 hx.2.2;rw[hg1]at h;have e:Yk m { zf i f.xs with links:=(zf i f.xs).links+1 }=Yk m (zf i f.xs):=rfl;have hc:=Zk (m:=m) (F:=zL s.name i) hf.rises hs.has;have hw:Yk m (qt (zf s.dir f.xs) (zL s.name i (zf s.dir f.xs).es))=Yk m (zf s.dir f.xs)+if i=m then 1 else 0:=ZJ (m:=m) (i:=i) (x:=zf s.dir f.xs) (hf.es (zf s.dir f.xs) hd.2.1) hs.free;show Yf m (qo _ _)=_;omega
 refine ⟨zZ hR1,fun x hx'=>?_,fun x hx'=>?_,fun x hx'=>?_,fun x hx' hk2=>?_,fun x hx' e he=>?_,fun x hx'=>?_,by rw[hhas];exact hf.root,?_,?_⟩
 ·rcases hmem hx' with rfl | rfl | ⟨h,_⟩
  ·exact hf.ino (zf i f.xs) hx.2.1
  ·exact hf.ino (zf s.dir f.xs) hd.2.1
  ·exact hf.ino _ h
 ·rcases hmem hx' with rfl | rfl | ⟨h,_⟩
  ·exact hf.kind (zf i f.xs) hx.2.1
  ·exact hf.kind (zf s.dir f.xs) hd.2.1
  ·exact hf.kind _ h
 ·rcases hmem hx' with rfl | rfl | ⟨h,_⟩
  ·exact hf.es (zf i f.xs) hx.2.1
  ·exact V4 (hf.es (zf s.dir f.xs) hd.2.1)
  ·exact hf.es _ h
 ·rcases hmem hx' with rfl | rfl | ⟨h,_⟩
  ·exact hf.file (zf i f.xs) hx.2.1 hk2
  ·exact absurd hs.kind hk2
  ·exact hf.file _ h hk2
 ·rw[hhas];rcases hmem hx' with rfl | rfl | ⟨h,_⟩
  ·exact hf.led (zf i f.xs) hx.2.1 e he
  ·rcases Yt he with rfl | he
   ·exact hi
   ·exact hf.led (zf s.dir f.xs) hd.2.1 e he
  ·exact hf.led _ h e he
 ·rw[hcnt];rcases hmem hx' with rfl | rfl | ⟨h,_,hzi⟩
  ·have:=hf.links (zf i f.xs) hx.2.1;show (zf i f.xs).links+1=((Yf (zf i f.xs).ino f.xs+if i=(zf i f.xs).ino then 1 else 0:Nat):Int);rw[if_pos hx.2.2.symm,this];rfl
  ·have:=hf.links (zf s.dir f.xs) hd.2.1;show (zf s.dir f.xs).links=((Yf (zf s.dir f.xs).ino f.xs+if i=(zf s.dir f.xs).ino then 1 else 0:Nat):Int);rw[if_neg (by rw[hd.2.2];exact fun e=>hne e.symm),this];rfl
  ·rw[if_neg fun e=>hzi e.symm];exact hf.links _ h
 ·show (zf 1 (qo _ _)).kind=2;rw[qQ];split
  ·rename_i h;have h:(zf i f.xs).ino=1:=h;rw[hx.2.2]at h;subst h;exact hf.base
  ·rw[jS hs.has];split
   ·exact hs.kind
   ·exact hf.base
 ·rw[hcnt,hf.bare,if_neg fun e=>hk (by rw[e];exact hf.base)]
theorem QT (hf:FsI f) {s:zK} (hs:zM f s):s.ino≠1:=fun e =>
 ZQ hf.bare _ (zi hs.has).2.1 _ (qm hs.there).2 e
theorem kP (hf:FsI f) {s:zK} (hs:zM f s) (he:(zf s.ino f.xs).es = []):FsI (zI f s):=by
 have hi:=zM.ino hf hs;have hd:=zi hs.has;have hx:=zi hi;have hr:=QT hf hs;have hne:s.dir≠s.ino:=fun e=>by
  have:=(qm hs.there).2;rw[e,he]at this;cases this
 have hR1:z6 (ql s.dir (zj s.name) f.xs):=zZ hf.rises;have hi1:zk s.ino (ql s.dir (zj s.name) f.xs)=true:=by rw[zQ hs.has];exact hi
 have hg1:zf s.ino (ql s.dir (zj s.name) f.xs)=zf s.ino f.xs:=by rw[jS hs.has,if_neg hne]
 have hc1:∀ m,Yf m (ql s.dir (zj s.name) f.xs)+(if s.ino=m then 1 else 0)=Yf m f.xs:=fun m=>by
  have hc:=Zk (m:=m) (F:=zj s.name) hf.rises hs.has;have hw:Yk m (zf s.dir f.xs)=Yk m (qt (zf s.dir f.xs) (zj s.name (zf s.dir f.xs).es))+if s.ino=m then 1 else 0:=Qy (m:=m) (i:=s.ino) (x:=zf s.dir f.xs) (hf.es (zf s.dir f.xs) hd.2.1) hs.there;omega
 have hlk:=hf.links (zf s.ino f.xs) hx.2.1;rw[hx.2.2]at hlk;have hci:=hc1 s.ino;rw[if_pos rfl]at hci;have hz:∀ m,Yk m (zf s.ino f.xs)=0:=fun m=>by unfold Yk;rw[he];rfl
 unfold zI;by_cases hl:(zf s.ino f.xs).links-1=0
 ·rw[if_pos hl];have hc0:Yf s.ino (ql s.dir (zj s.name) f.xs)=0:=by omega
  have hcnt:∀ m,Yf m (qh s.ino (ql s.dir (zj s.name) f.xs))=Yf m (ql s.dir (zj s.name) f.xs):=fun m=>by
   have:=zj8 (m:=m) hR1 hi1;rw[hg1,hz]at this;omega
  have hmem:∀ {z:zl},z∈qh s.ino (ql s.dir (zj s.name) f.xs)->(z=qt (zf s.dir f.xs) (zj s.name (zf s.dir f.xs).es)∨(z∈f.xs/\z.ino≠s.dir))/\z.ino≠s.ino:=fun {z} hz=>by
   obtain ⟨hz,hzi⟩:=Xo.1 hz;exact ⟨(qG hs.has).1 hz,hzi⟩
  have hin:∀ {z:zl},z∈qh s.ino (ql s.dir (zj s.name) f.xs)->z∈ql s.dir (zj s.name) f.xs:=fun {z} hz=>(Xo.1 hz).1;refine ⟨GC hR1,fun x hx'=>?_,fun x hx'=>?_,fun x hx'=>?_,fun x hx' hk2=>?_,fun x hx' e hee=>?_,fun x hx'=>?_,?_,?_,?_⟩
  ·rcases hmem hx' with ⟨rfl | ⟨h,_⟩,_⟩
   ·exact hf.ino (zf s.dir f.xs) hd.2.1
   ·exact hf.ino _ h
  ·rcases hmem hx' with ⟨rfl | ⟨h,_⟩,_⟩
   ·exact hf.kind (zf s.dir f.xs) hd.2.1
   ·exact hf.kind _ h
  ·rcases hmem hx' with ⟨rfl | ⟨h,_⟩,_⟩
   ·exact Ys (hf.es (zf s.dir f.xs) hd.2.1)
   ·exact hf.es _ h
  ·rcases hmem hx' with ⟨rfl | ⟨h,_⟩,_⟩
   ·exact absurd hs.kind hk2
   ·exact hf.file _ h hk2
  ·show zk e.ino (qh _ _)=true;rw[Qh,zQ hs.has];have h1:e.ino≠s.ino:=ZQ hc0 x (hin hx') e hee;rw[Wi h1];show zk e.ino f.xs=true;rcases hmem hx' with ⟨rfl | ⟨h,_⟩,_⟩
   ·exact hf.led (zf s.dir f.xs) hd.2.1 e (jj hee).1
   ·exact hf.led _ h e hee
  ·show x.links=((Yf x.ino (qh _ _):Nat):Int);rw[hcnt];obtain ⟨h1,h2⟩:=hmem hx';have h3:=hc1 x.ino;rw[if_neg fun e=>h2 e.symm]at h3;have h4:x.links=(Yf x.ino f.xs:Int):=by
    rcases h1 with rfl | ⟨h,_⟩
    ·exact hf.links (zf s.dir f.xs) hd.2.1
    ·exact hf.links _ h
   omega
  ·show zk 1 (qh _ _)=true;rw[Qh,zQ hs.has,hf.root,Wi fun e=>hr e.symm];rfl
  ·show (zf 1 (qh _ _)).kind=2;rw[kV,if_neg fun e=>hr e.symm,jS hs.has];split
   ·exact hs.kind
   ·exact hf.base
  ·show Yf 1 (qh _ _)=0;rw[hcnt];have:=hc1 1;have:=hf.bare;omega
 ·rw[if_neg hl];have hmem:∀ {z:zl},z∈qo { zf s.ino f.xs with links:=(zf s.ino f.xs).links-1 } (ql s.dir (zj s.name) f.xs)->z = { zf s.ino f.xs with links:=(zf s.ino f.xs).links-1 }∨z=qt (zf s.dir f.xs) (zj s.name (zf s.dir f.xs).es)∨(z∈f.xs/\z.ino≠s.dir/\z.ino≠s.ino):=fun {z} hz=>by
   rcases qE.1 hz with rfl | ⟨hz,hzi⟩
   ·exact .inl rfl
   ·have hzi:z.ino≠(zf s.ino f.xs).ino:=hzi;rw[hx.2.2]at hzi;rcases (qG hs.has).1 hz with rfl | ⟨hz,hzd⟩
    ·exact .inr (.inl rfl)
    ·exact .inr (.inr ⟨hz,hzd,hzi⟩)
  have hhas:∀ m,zk m (qo { zf s.ino f.xs with links:=(zf s.ino f.xs).links-1 } (ql s.dir (zj s.name) f.xs))=zk m f.xs:=fun m=>by
   rw[ja,zQ hs.has];show (decide ((zf s.ino f.xs).ino=m)||_)=_;rw[hx.2.2];by_cases h:s.ino=m
   ·rw[←h,hi];simp
   ·simp[h]
  have hcnt:∀ m,Yf m (qo { zf s.ino f.xs with links:=(zf s.ino f.xs).links-1 } (ql s.dir (zj s.name) f.xs))=Yf m (ql s.dir (zj s.name) f.xs):=fun m=>by
   have h:=kr (m:=m) (x:={ zf s.ino f.xs with links:=(zf s.ino f.xs).links-1 }) hR1 hi1 hx.2.2;rw[hg1]at h;have e:Yk m { zf s.ino f.xs with links:=(zf s.ino f.xs).links-1 }=Yk m (zf s.ino f.xs):=rfl;omega
  refine ⟨zZ hR1,fun x hx'=>?_,fun x hx'=>?_,fun x hx'=>?_,fun x hx' hk2=>?_,fun x hx' e hee=>?_,fun x hx'=>?_,by rw[hhas];exact hf.root,?_,?_⟩
  ·rcases hmem hx' with rfl | rfl | ⟨h,_⟩
   ·exact hf.ino (zf s.ino f.xs) hx.2.1
   ·exact hf.ino (zf s.dir f.xs) hd.2.1
   ·exact hf.ino _ h
  ·rcases hmem hx' with rfl | rfl | ⟨h,_⟩
   ·exact hf.kind (zf s.ino f.xs) hx.2.1
   ·exact hf.kind (zf s.dir f.xs) hd.2.1
   ·exact hf.kind _ h
  ·rcases hmem hx' with rfl | rfl | ⟨h,_⟩
   ·exact hf.es (zf s.ino f.xs) hx.2.1
   ·exact Ys (hf.es (zf s.dir f.xs) hd.2.1)
   ·exact hf.es _ h
  ·rcases hmem hx' with rfl | rfl | ⟨h,_⟩
   ·exact he
   ·exact absurd hs.kind hk2
   ·exact hf.file _ h hk2
  ·rw[hhas];rcases hmem hx' with rfl | rfl | ⟨h,_⟩
   ·exact hf.led (zf s.ino f.xs) hx.2.1 e hee
   ·exact hf.led (zf s.dir f.xs) hd.2.1 e (jj hee).1
   ·exact hf.led _ h e hee
  ·rw[hcnt];rcases hmem hx' with rfl | rfl | ⟨h,_,hzi⟩
   ·show (zf s.ino f.xs).links-1=((Yf (zf s.ino f.xs).ino (ql s.dir (zj s.name) f.xs):Nat):Int);rw[hx.2.2];omega
   ·have h3:=hc1 (zf s.dir f.xs).ino;have h4:=hf.links (zf s.dir f.xs) hd.2.1;rw[if_neg (by rw[hd.2.2];exact fun e=>hne e.symm)]at h3;show (zf s.dir f.xs).links=((Yf (zf s.dir f.xs).ino (ql s.dir (zj s.name) f.xs):Nat):Int);omega
   ·have h3:=hc1 x.ino;rw[if_neg fun e=>hzi e.symm]at h3;have h4:=hf.links _ h;omega
  ·show (zf 1 (qo _ _)).kind=2;rw[qQ,if_neg (show ¬(zf s.ino f.xs).ino=1 by rw[hx.2.2];exact hr),jS hs.has];split
   ·exact hs.kind
   ·exact hf.base
  ·rw[hcnt];have:=hc1 1;have:=hf.bare;omega
end
section
theorem zaW (hf:FsI f) {ys:List zl} (hR:z6 ys) (hall:∀ z∈ys,∃ y∈f.xs,z.ino=y.ino/\z.kind=y.kind/\z.links=y.links/\JE z.es/\(z.kind≠2->z.es = [])/\∀ e∈z.es,zk e.ino f.xs=true)
  (hhas:∀ m,zk m ys=zk m f.xs) (hcnt:∀ m,Yf m ys=Yf m f.xs):FsI { f with xs:=ys }:=by
 refine ⟨hR,fun x hx=>?_,fun x hx=>?_,fun x hx=>?_,fun x hx hk=>?_,fun x hx e he=>?_,fun x hx=>?_,by rw[hhas];exact hf.root,?_,by rw[hcnt];exact hf.bare⟩
 ·obtain ⟨y,hy,e1,_⟩:=hall x hx;rw[e1];exact hf.ino y hy
 ·obtain ⟨y,hy,_,e2,_⟩:=hall x hx;rw[e2];exact hf.kind y hy
 ·obtain ⟨y,hy,_,_,_,e4,_⟩:=hall x hx;exact e4
 ·obtain ⟨y,hy,_,_,_,_,e5,_⟩:=hall x hx;exact e5 hk
 ·obtain ⟨y,hy,_,_,_,_,_,e6⟩:=hall x hx;rw[hhas];exact e6 e he
 ·obtain ⟨y,hy,e1,_,e3,_⟩:=hall x hx;rw[hcnt,e3,e1];exact hf.links y hy
 ·have h1:zk 1 ys=true:=by rw[hhas];exact hf.root
  obtain ⟨y,hy,e1,e2,_⟩:=hall _ (zi h1).2.1;rw[(zi h1).2.2]at e1;have e7:=(zoA hf.rises).1 hy;rw[←e1,(zi hf.root).1]at e7;simp only[Option.some.injEq]at e7;show (zf 1 ys).kind=2;rw[e2,←e7];exact hf.base
theorem zgb (hf:FsI f) {a b:zK} (ha:zM f a) (hb:jr f b):FsI (JG f a b):=by
 have hda:=zi ha.has;have hdb:=zi hb.has;have hai:=zM.ino hf ha;obtain ⟨g1,hg1⟩:∃ g1,ql a.dir (zj a.name) f.xs=g1:=⟨_,rfl⟩;obtain ⟨g2,hg2⟩:∃ g2,ql b.dir (zL b.name a.ino) g1=g2:=⟨_,rfl⟩;have hR1:z6 g1:=by rw[←hg1];exact zZ hf.rises
 have hR2:z6 g2:=by rw[←hg2];exact zZ hR1
 have hh1:∀ m,zk m g1=zk m f.xs:=fun m=>by rw[←hg1];exact zQ ha.has
 have hb1:zk b.dir g1=true:=by rw[hh1];exact hb.has
 have hh2:∀ m,zk m g2=zk m f.xs:=fun m=>by rw[←hg2,zQ hb1];exact hh1 m
 have hgb:zf b.dir g1=if a.dir=b.dir then qt (zf a.dir f.xs) (zj a.name (zf a.dir f.xs).es) else zf b.dir f.xs:=by rw[←hg1,jS ha.has]
 have hmem1:∀ {z:zl},z∈g1->z=qt (zf a.dir f.xs) (zj a.name (zf a.dir f.xs).es)∨(z∈f.xs/\z.ino≠a.dir):=fun {z} hz=>by rw[←hg1]at hz;exact (qG ha.has).1 hz
 have hmem2:∀ {z:zl},z∈g2->z=qt (zf b.dir g1) (zL b.name a.ino (zf b.dir g1).es)∨(z∈g1/\z.ino≠b.dir):=fun {z} hz=>by rw[←hg2]at hz;exact (qG hb1).1 hz
 have hal1:∀ z∈g1,∃ y∈f.xs,z.ino=y.ino/\z.kind=y.kind/\z.links=y.links/\JE z.es/\(z.kind≠2->z.es = [])/\∀ e∈z.es,zk e.ino f.xs=true:=fun z hz=>by
  rcases hmem1 hz with rfl | ⟨h,_⟩
  ·exact ⟨_,hda.2.1,rfl,rfl,rfl,Ys (hf.es _ hda.2.1),fun hk=>absurd ha.kind hk,fun e he=>hf.led _ hda.2.1 e (jj he).1⟩
  ·exact ⟨_,h,rfl,rfl,rfl,hf.es _ h,hf.file _ h,hf.led _ h⟩
 have hal2:∀ z∈g2,∃ y∈f.xs,z.ino=y.ino/\z.kind=y.kind/\z.links=y.links/\JE z.es/\(z.kind≠2->z.es = [])/\∀ e∈z.es,zk e.ino f.xs=true:=fun z hz=>by
  rcases hmem2 hz with rfl | ⟨h,_⟩
  ·obtain ⟨y,hy,e1,e2,e3,e4,e5,e6⟩:=hal1 _ (zi hb1).2.1;refine ⟨y,hy,e1,e2,e3,V4 e4,fun hk=>?_,fun e he=>?_⟩
   ·have hk':(zf b.dir g1).kind≠2:=hk;have:(zf b.dir g1).kind=2:=by
     rw[hgb];split
     ·exact ha.kind
     ·exact hb.kind
    exact absurd this hk'
   ·rcases Yt he with rfl | he
    ·exact hai
    ·exact e6 e he
  ·exact hal1 z h
 have hfree:YM b.name (zf b.dir g1).es=false:=by
  rw[hgb];split
  ·rename_i hab;show YM b.name (zj a.name (zf a.dir f.xs).es)=false;rw[Oq];intro h;have h1:=Yy h;have h2:=(jj (qm h1).2).1;have h3:YM b.name (zf a.dir f.xs).es=true:=by
    unfold YM JZ;exact Or.2 ⟨_,h2,by simp⟩
   have:=hb.free;rw[←hab,h3]at this;cases this
  ·exact hb.free
 have hc1:∀ m,Yf m g1+(if a.ino=m then 1 else 0)=Yf m f.xs:=fun m=>by
  have hc:=Zk (m:=m) (F:=zj a.name) hf.rises ha.has;have hw:Yk m (zf a.dir f.xs)=Yk m (qt (zf a.dir f.xs) (zj a.name (zf a.dir f.xs).es))+if a.ino=m then 1 else 0:=Qy (m:=m) (i:=a.ino) (x:=zf a.dir f.xs) (hf.es _ hda.2.1) ha.there;rw[hg1]at hc;omega
 have hc2:∀ m,Yf m g2=Yf m f.xs:=fun m=>by
  have hc:=Zk (m:=m) (F:=zL b.name a.ino) hR1 hb1;obtain ⟨_,_,_,_,_,e4,_⟩:=hal1 _ (zi hb1).2.1;have hw:Yk m (qt (zf b.dir g1) (zL b.name a.ino (zf b.dir g1).es))=Yk m (zf b.dir g1)+if a.ino=m then 1 else 0:=ZJ (m:=m) (i:=a.ino) (x:=zf b.dir g1) e4 hfree;have:=hc1 m;rw[hg2]at hc;omega
 have key:FsI { f with xs:=g2 }:=zaW hf hR2 hal2 hh2 hc2;unfold JG;rw[hg1,hg2];show FsI (if (zf a.ino g2).kind=2 then _ else _);split
 ·have hia:zk a.ino g2=true:=by rw[hh2];exact hai
  have hx:=zi hia;refine zaW hf (zZ hR2) (fun z hz=>?_) (fun m=>?_) (fun m=>?_)
  ·rcases qE.1 hz with rfl | ⟨hz,_⟩
   ·exact hal2 (zf a.ino g2) hx.2.1
   ·exact hal2 z hz
  ·rw[ja];show (decide ((zf a.ino g2).ino=m)||_)=_;rw[hx.2.2,hh2];by_cases h:a.ino=m
   ·rw[←h,hai];simp
   ·simp[h]
  ·have h:=kr (m:=m) (x:={ zf a.ino g2 with parent:=b.dir }) hR2 hia hx.2.2;have e:Yk m { zf a.ino g2 with parent:=b.dir }=Yk m (zf a.ino g2):=rfl;have:=hc2 m;omega
 ·exact key
theorem zlA {f:FsV} (hf:FsI f):∀ (ns:List Lz) (s:zK),(s.ino≠0->zk s.ino f.xs=true)->(atW f.xs ns s).2=0->ns≠[] ->
  zk (atW f.xs ns s).1.dir f.xs=true/\(zf (atW f.xs ns s).1.dir f.xs).kind=2/\(atW f.xs ns s).1.ino=zY (atW f.xs ns s).1.name (zf (atW f.xs ns s).1.dir f.xs).es/\(atW f.xs ns s).1.name∈ns
 | [],s,_,_,h=>absurd rfl h
 | n :: r,s,hs,h0,_=>by
  unfold atW at h0 ⊢;by_cases h1:s.ino=0
  ·rw[if_pos h1]at h0;cases h0
  rw[if_neg h1]at h0 ⊢;by_cases h2:(zf s.ino f.xs).kind≠2
  ·rw[if_pos h2]at h0;cases h0
  rw[if_neg h2]at h0 ⊢;have h2:(zf s.ino f.xs).kind=2:=WE.1 h2;have hg:=zi (hs h1);have hnx:zY n (zf s.ino f.xs).es≠0->zk (zY n (zf s.ino f.xs).es) f.xs=true:=fun hne=>by
   have hh:YM n (zf s.ino f.xs).es=true:=by
    unfold YM;rw[qx];cases hq:qM zN.name n (zf s.ino f.xs).es with
    | some e=>rfl
    | none=>unfold zY at hne;rw[hq]at hne;exact absurd rfl hne
   exact hf.led _ hg.2.1 _ (qm (Yy hh)).2
  cases r with
  | nil =>
   unfold atW;rw[hg.2.2];exact ⟨hs h1,h2,rfl,Wj⟩
  | cons m r =>
   obtain ⟨i1,i2,i3,i4⟩:=zlA hf (m :: r) ⟨(zf s.ino f.xs).ino,n,zY n (zf s.ino f.xs).es⟩ hnx h0 (by simp);exact ⟨i1,i2,i3,Wk _ i4⟩
theorem ub {f:FsV} (hf:FsI f):∀ (ns:List Lz) (s:zK),(s.ino≠0->zk s.ino f.xs=true)->(atW f.xs ns s).1.ino≠0->zk (atW f.xs ns s).1.ino f.xs=true
 | [],s,hs,h=>hs h
 | n :: r,s,hs,h=>by
  unfold atW at h ⊢;by_cases h1:s.ino=0
  ·rw[if_pos h1]at h;exact absurd rfl h
  rw[if_neg h1]at h ⊢;by_cases h2:(zf s.ino f.xs).kind≠2
  ·rw[if_pos h2]at h;exact absurd rfl h
  rw[if_neg h2]at h ⊢;have hg:=zi (hs h1);refine ub hf r _ (fun hne=>?_) h;have hne:zY n (zf s.ino f.xs).es≠0:=hne;have hh:YM n (zf s.ino f.xs).es=true:=by
   unfold YM;rw[qx];cases hq:qM zN.name n (zf s.ino f.xs).es with
   | some e=>rfl
   | none=>unfold zY at hne;rw[hq]at hne;exact absurd rfl hne
  exact hf.led _ hg.2.1 _ (qm (Yy hh)).2
end
section
structure Q9 (w:qH):Prop where
 fs:FsI w.fs
 kept:qU Jq zV.slot w.kept
 pool:z6 w.pool
 apart:∀ x∈w.pool,zk x.ino w.fs.xs=false/\x.ino<w.fs.next
theorem Qj (hf:FsI f) {n:Int} (h:zk n f.xs=true):n≠0:=fun e=>by
 have:=(hf.ino _ (zi h).2.1).1;rw[(zi h).2.2]at this;omega
theorem VI (hf:FsI f) {d:Int} (hd:zk d f.xs=true) {n:Lz} (h:YM n (zf d f.xs).es=true):zk (zY n (zf d f.xs).es) f.xs=true:=
 hf.led _ (zi hd).2.1 _ (qm (Yy h)).2
theorem zgs (hf:FsI f) {p:Lz} (hp:zT p=true) (h:(atV f p).2=0) :
  zk (atV f p).1.dir f.xs=true/\(zf (atV f p).1.dir f.xs).kind=2/\(atV f p).1.ino=zY (atV f p).1.name (zf (atV f p).1.dir f.xs).es/\(atV f p).1.name∈zn p:=by
 unfold zT at hp;simp only[Wo,OY,Of]at hp;unfold atV at h ⊢;rw[if_pos hp.1]at h ⊢;exact zlA hf (zn p) ⟨0,[],1⟩ (fun _=>hf.root) h hp.2
theorem jB (hf:FsI f) {p:Lz} (hp:zT p=true) (h:(isV f p true).2.2=0):zM f (isV f p true).1/\(isV f p true).2.1=zf (isV f p true).1.ino f.xs:=by
 unfold isV at h ⊢;simp only at h ⊢;by_cases h0:(atV f p).2≠0
 ·rw[if_pos h0]at h;exact absurd h h0
 rw[if_neg h0]at h;have h0:(atV f p).2=0:=WE.1 h0;obtain ⟨a1,a2,a3,_⟩:=zgs hf hp h0;refine ⟨⟨a1,a2,?_⟩,trivial⟩;have hh:zk (atV f p).1.ino f.xs=true:=by
  cases hq:zk (atV f p).1.ino f.xs with
  | true=>rfl
  | false=>rw[hq]at h;simp at h
 have he:YM (atV f p).1.name (zf (atV f p).1.dir f.xs).es=true:=by
  unfold YM;rw[qx];cases hq:qM zN.name (atV f p).1.name (zf (atV f p).1.dir f.xs).es with
  | some e=>rfl
  | none =>
   unfold zY at a3;rw[hq]at a3;exact absurd a3 (Qj hf hh)
 rw[Yy he,←a3]
theorem Ju (hf:FsI f) {p:Lz} (hp:zT p=true) (h:(isV f p false).2.2=0):jr f (isV f p false).1:=by
 unfold isV at h ⊢;simp only at h ⊢;by_cases h0:(atV f p).2≠0
 ·rw[if_pos h0]at h;exact absurd h h0
 rw[if_neg h0]at h;have h0:(atV f p).2=0:=WE.1 h0;obtain ⟨a1,a2,a3,_⟩:=zgs hf hp h0;refine ⟨a1,a2,?_⟩;have hh:zk (atV f p).1.ino f.xs=false:=by
  cases hq:zk (atV f p).1.ino f.xs with
  | false=>rfl
  | true=>rw[hq]at h;simp at h
 rw[Oq];intro he;have:=VI hf a1 he;rw[←a3,hh]at this;cases this
theorem QJ {o:OpV} (h:UL o=true):zT o.a=true/\(zoJ o.kind=true->zT o.b=true)/\1<=o.kind/\o.kind<=10:=by
 unfold UL at h;simp only[Wo,WR]at h;obtain ⟨⟨⟨⟨⟨⟨h1,h2⟩,h3⟩,h4⟩,h5⟩,h6⟩,h7⟩:=h;exact ⟨h3,fun hb=>by rw[if_pos hb]at h5;exact h5,h1,h2⟩
theorem znz (hw:Q9 w) {g:FsV} (hg:FsI g) (hn:w.fs.next<=g.next) (hh:∀ x∈w.pool,zk x.ino g.xs=false):Q9 { w with fs:=g }:=
 ⟨hg,hw.kept,hw.pool,fun x hx=>⟨hh x hx,by have:=(hw.apart x hx).2;show x.ino<g.next;omega⟩⟩
theorem QQ (f:FsV) (s:zK) (k:Int) (t:Lz):(kw f s k t).1=f∨(kw f s k t).1=Q8 f s k t:=by
 unfold kw;by_cases h1:may s.name=true
 ·rw[if_pos h1];by_cases h2:JS f 1 (if k=1 then (t.length:Int) else 0)=true
  ·rw[if_pos h2];exact .inr rfl
  ·rw[if_neg h2];exact .inl rfl
 ·rw[if_neg h1];exact .inl rfl
theorem yZ (hw:Q9 w) {p:Lz} (hp:zT p=true) {k:Int} (hk:k=1∨k=2∨k=3) (t:Lz):Q9 (JK w p k t).1:=by
 unfold JK;by_cases h:(isV w.fs p false).2.2≠0
 ·rw[if_pos h];exact hw
 rw[if_neg h];have hs:=Ju hw.fs hp (WE.1 h);refine znz hw (zqa hw.fs hs k hk t) ?_ ?_
 ·rcases QQ w.fs (isV w.fs p false).1 k t with e | e
  ·rw[e];exact O7 _
  ·rw[e];show w.fs.next<=w.fs.next+1;omega
 ·intro x hx;obtain ⟨a1,a2⟩:=hw.apart x hx;rcases QQ w.fs (isV w.fs p false).1 k t with e | e
  ·rw[e];exact a1
  ·rw[e];show zk x.ino (qo _ _)=false;rw[ja,zQ hs.has,a1];show (decide (w.fs.next=x.ino)||false)=false;rw[Wi (by omega)];rfl
theorem Zn (hf:FsI f) {p:Lz} (hp:zT p=true) (h:(qd f p).2=0):zk (qd f p).1.ino f.xs=true/\(qd f p).1.kind=1/\(qd f p).1=zf (qd f p).1.ino f.xs:=by
 unfold qd at h ⊢;simp only at h ⊢;by_cases h0:(isV f p true).2.2≠0
 ·rw[if_pos h0]at h;exact absurd h h0
 rw[if_neg h0]at h;obtain ⟨h1,h2⟩:=jB hf hp (WE.1 h0);have hi:=zM.ino hf h1;have hg:=zi hi;rw[h2]at h ⊢;rw[hg.2.2];refine ⟨hi,?_,rfl⟩;have hk:=hf.kind _ hg.2.1;by_cases h3:(zf (isV f p true).1.ino f.xs).kind=2
 ·rw[if_pos h3]at h;cases h
 rw[if_neg h3]at h;by_cases h4:(zf (isV f p true).1.ino f.xs).kind=3
 ·rw[if_pos h4]at h;cases h
 omega
theorem zhG {k:zV} (h:qU Jq zV.slot ks) (hn:MZ k.slot ks=false):qU Jq zV.slot (qP k ks):=
 V2 h fun y hy e=>by
  unfold MZ JZ at hn;rw[Oh]at hn;exact hn y hy (by simpa using e)
theorem VD {s:zK} (h:zk s.dir f.xs=true) (hi:zk s.ino f.xs=true) (m:Int):zk m (zI f s).xs=if (zf s.ino f.xs).links-1=0 then (!decide (m=s.ino)&&zk m f.xs) else zk m f.xs:=by
 unfold zI;split
 ·show zk m (qh _ _)=_;rw[Qh,zQ h]
 ·show zk m (qo _ _)=_;rw[ja,zQ h];show (decide ((zf s.ino f.xs).ino=m)||_)=_;rw[(zi hi).2.2];by_cases e:s.ino=m
  ·rw[←e,hi];simp
  ·simp[e]
theorem YH (f:FsV) (s:zK):(zI f s).next=f.next:=by unfold zI;split<;>rfl
theorem zfb (hw:Q9 w) {n:Int} {s:zK} (hs:zM w.fs s) (he:(zf s.ino w.fs.xs).es = []):Q9 (XL w n s).1:=by
 unfold XL;cases hn:MZ n w.kept with
 | true=>rw[if_pos rfl];exact hw
 | false =>
  rw[if_neg (by simp)];have hi:=zM.ino hw.fs hs;have hg:=zi hi;have hf:=kP hw.fs hs he;refine ⟨hf,zhG hw.kept hn,?_,fun x hx=>?_⟩
  ·show z6 (if _ then _ else _);split
   ·exact zZ hw.pool
   ·exact hw.pool
  ·show zk x.ino (zI w.fs s).xs=false/\x.ino<(zI w.fs s).next;rw[VD hs.has hi,YH];have hx:x∈(if (zf s.ino w.fs.xs).links=1 then qo { zf s.ino w.fs.xs with links:=0,parent:=0 } w.pool else w.pool):=hx;by_cases h1:(zf s.ino w.fs.xs).links=1
   ·rw[if_pos h1]at hx;rw[if_pos (by omega)];rcases qE.1 hx with rfl | ⟨hx,_⟩
    ·refine ⟨?_,?_⟩
     ·show (!decide ((zf s.ino w.fs.xs).ino=s.ino)&&_)=false;rw[hg.2.2];simp
     ·exact (hw.fs.ino _ hg.2.1).2
    ·obtain ⟨a1,a2⟩:=hw.apart x hx;rw[a1,O4];exact ⟨rfl,a2⟩
   ·rw[if_neg h1]at hx;rw[if_neg (by omega)];exact hw.apart x hx
theorem zr1 (hw:Q9 w) (o:OpV) (hk:o.kind<=7):Q9 (doV w o).1:=by
 unfold doV;cases hm:UL o with
 | false=>exact hw
 | true =>
  obtain ⟨p1,p2,k1,_⟩:=QJ hm;rw[if_neg (by simp)];by_cases h1:o.kind=1
  ·rw[if_pos h1];exact yZ hw p1 (.inr (.inl rfl)) []
  rw[if_neg h1];by_cases h2:o.kind=2
  ·rw[if_pos h2];unfold Jk;split
   ·exact hw
   ·exact yZ hw (p2 (by rw[h2];rfl)) (.inl rfl) _
  rw[if_neg h2];by_cases h3:o.kind=3
  ·rw[if_pos h3];have pb:=p2 (by rw[h3];rfl);unfold qL;split
   ·exact hw
   ·split
    ·exact hw
    ·rename_i hfb;have hfb:=Zn hw.fs pb (WE.1 hfb);split
     ·exact hw
     ·split
      ·exact hw
      ·rename_i hkd;split
       ·exact hw
       ·rename_i hda;have hkd:=WE.1 hkd;have hda:=WE.1 hda;unfold qF at hkd ⊢;cases hn:MZ o.slot w.kept with
        | true=>rw[hn]at hkd;simp at hkd
        | false =>
         rw[if_neg (by simp)];unfold Xx at hda ⊢;by_cases hr:JS w.fs 0 (((qd w.fs o.a).1.data.length:Int)-(zf (qd w.fs o.b).1.ino w.fs.xs).data.length)=true
         ·rw[if_pos hr];have hfi:=znX hw.fs hfb.1 (qd w.fs o.a).1.data;refine ⟨hfi,zhG hw.kept hn,hw.pool,fun x hx=>⟨?_,(hw.apart x hx).2⟩⟩;show zk x.ino (qo _ _)=false;rw[ja,(hw.apart x hx).1];show (decide ((zf (qd w.fs o.b).1.ino w.fs.xs).ino=x.ino)||false)=false;rw[(zi hfb.1).2.2,A1,Of];intro e;have:=(hw.apart x hx).1;rw[←e,hfb.1]at this;cases this
         ·rw[if_neg hr]at hda;cases hda
  rw[if_neg h3];by_cases h4:o.kind=4
  ·rw[if_pos h4];exact yZ hw p1 (.inr (.inr rfl)) _
  rw[if_neg h4];by_cases h5:o.kind=5
  ·rw[if_pos h5];have pb:=p2 (by rw[h5];rfl);unfold jZ;simp only;split
   ·exact hw
   ·rename_i ha;obtain ⟨t1,t2⟩:=jB hw.fs p1 (WE.1 ha);split
    ·exact hw
    ·rename_i hkd;split
     ·exact hw
     ·rename_i hb;have hfree:=Ju hw.fs pb (WE.1 hb);have hi:=zM.ino hw.fs t1;rw[t2]at hkd;have e:(isV w.fs o.a true).2.1.ino=(isV w.fs o.a true).1.ino:=by rw[t2,(zi hi).2.2]
      rw[e];have hfi:=znm hw.fs hfree hi hkd;refine znz hw hfi (O7 _) fun x hx=>?_;show zk x.ino (qo _ _)=false;rw[ja,zQ hfree.has,(hw.apart x hx).1];show (decide ((zf (isV w.fs o.a true).1.ino w.fs.xs).ino=x.ino)||false)=false;rw[(zi hi).2.2,A1,Of];intro e2;have:=(hw.apart x hx).1;rw[←e2,hi]at this;cases this
  rw[if_neg h5];by_cases h6:o.kind=6
  ·rw[if_pos h6];have pb:=p2 (by rw[h6];rfl);unfold YO;split
   ·exact hw
   ·rename_i ha;split
    ·exact hw
    ·rename_i hb;obtain ⟨t1,t2⟩:=jB hw.fs p1 (WE.1 ha);have hfree:=Ju hw.fs pb (WE.1 hb);have hmv:=zgb hw.fs t1 hfree;refine znz hw hmv ?_ fun x hx=>?_
     ·unfold JG;simp only;split<;>exact O7 _
     ·have hi:=zM.ino hw.fs t1;have hb1:zk (isV w.fs o.b false).1.dir (ql (isV w.fs o.a true).1.dir (zj (isV w.fs o.a true).1.name) w.fs.xs)=true:=by rw[zQ t1.has];exact hfree.has
      have h2:∀ m,zk m (ql (isV w.fs o.b false).1.dir (zL (isV w.fs o.b false).1.name (isV w.fs o.a true).1.ino) (ql (isV w.fs o.a true).1.dir (zj (isV w.fs o.a true).1.name) w.fs.xs))=zk m w.fs.xs:=fun m=>by rw[zQ hb1,zQ t1.has]
      unfold JG;simp only;split
      ·show zk x.ino (qo _ _)=false;have hi2:=h2 (isV w.fs o.a true).1.ino;rw[hi]at hi2;rw[ja,h2,(hw.apart x hx).1];show (decide ((zf (isV w.fs o.a true).1.ino _).ino=x.ino)||false)=false;rw[(zi hi2).2.2,A1,Of];intro e2;have:=(hw.apart x hx).1;rw[←e2,hi]at this;cases this
      ·show zk x.ino (ql _ _ _)=false;rw[h2];exact (hw.apart x hx).1
  rw[if_neg h6];unfold jf;simp only;split
  ·exact hw
  ·rename_i ha;split
   ·exact hw
   ·rename_i hes;obtain ⟨t1,t2⟩:=jB hw.fs p1 (WE.1 ha);rw[t2]at hes;exact zfb hw t1 (WE.1 hes)
end
section
def U7 (N:Nat) (x:zl):Prop:=x.es.length<=N/\x.data.length<=5000/\∀ e∈x.es,e.name.length<=300
structure MN (N:Nat) (w:qH):Prop where
 len:w.fs.xs.length<=N
 node:∀ x∈w.fs.xs,U7 N x
 klen:w.kept.length<=N
 kdata:∀ k∈w.kept,k.data.length<=5000
 plen:w.pool.length<=N
 pnode:∀ x∈w.pool,U7 N x
 next:w.fs.next<=1099511627776+N
 room:w.fs.maxI<=1073741824/\w.fs.maxB<=1073741824/\-1073741824<=w.fs.maxI/\-1073741824<=w.fs.maxB
theorem U7.up (h:U7 N x):U7 (N+1) x:=⟨OJ h.1,h.2⟩
theorem MN.up (h:MN N w):MN (N+1) w:=
 ⟨OJ h.len,fun x hx=>(h.node x hx).up,OJ h.klen,h.kdata,OJ h.plen,fun x hx=>(h.pnode x hx).up,by have:=h.next;omega,h.room⟩
theorem ky {n:Lz} (h:may n=true):n.length<=255:=by
 unfold may at h;simp only[Wo,WR]at h;exact h.1.1.1.2
theorem zf0 (n:Lz) (i:Int) (es:List zN):(zL n i es).length<=es.length+1:=by
 unfold zL;rw[UO];have:=kL (key:=zN.name) n es;omega
theorem kW (h:U7 N x) {n:Lz} (hn:n.length<=300) (i:Int):U7 (N+1) (qt x (zL n i x.es)):=by
 refine ⟨?_,h.2.1,fun e he=>?_⟩
 ·have:=zf0 n i x.es;have:=h.1;show (zL n i x.es).length<=N+1;omega
 ·rcases Yt he with rfl | he
  ·exact hn
  ·exact h.2.2 e he
theorem Ue (h:U7 N x) (n:Lz):U7 N (qt x (zj n x.es)):=by
 refine ⟨?_,h.2.1,fun e he=>h.2.2 e (jj he).1⟩;have:=kL (key:=zN.name) n x.es;have:=h.1;show (Ye zN.name n x.es).length<=N;omega
theorem j9 (h:∀ x∈xs,U7 N x) {n:Int} (hh:zk n xs=true):U7 N (zf n xs):=h _ (zi hh).2.1
theorem VQ (h:∀ x∈xs,U7 N x) (hx:U7 N x):∀ z∈qo x xs,U7 N z:=fun z hz=>by
 rcases qE.1 hz with rfl | ⟨hz,_⟩
 ·exact hx
 ·exact h z hz
theorem J1 (hR:z6 xs) (hh:zk x.ino xs=true):(qo x xs).length=xs.length:=by rw[←yJ hR hh];simp
theorem jW {F:List zN->List zN} (hR:z6 xs) (hh:zk n xs=true):(ql n F xs).length=xs.length:=by
 unfold ql;refine J1 hR ?_;show zk (zf n xs).ino xs=true;rw[(zi hh).2.2];exact hh
theorem zdV (hf:FsI f) {p:Lz} (hp:zT p=true) (h:(atV f p).2=0):(atV f p).1.name.length<=300:=by
 have h1:=(zgs hf hp h).2.2.2;unfold zT jK at hp;simp only[Wo]at hp;have:=ky (Ws.1 hp.1.2 _ h1);omega
theorem QF {p:Lz} {b:Bool} (h:(isV f p b).2.2=0):(atV f p).2=0:=by
 unfold isV at h;simp only at h;by_cases h0:(atV f p).2≠0
 ·rw[if_pos h0]at h;exact h
 ·exact WE.1 h0
theorem znO (hw:Q9 w) (hb:MN N w) {p:Lz} (hp:zT p=true) {k:Int} {t:Lz} (ht:t.length<=5000):MN (N+1) (JK w p k t).1:=by
 unfold JK;by_cases h:(isV w.fs p false).2.2≠0
 ·rw[if_pos h];exact hb.up
 rw[if_neg h];have h:=WE.1 h;have hs:=Ju hw.fs hp h;unfold kw;by_cases h1:may (isV w.fs p false).1.name=true
 ·rw[if_pos h1];by_cases h2:JS w.fs 1 (if k=1 then (t.length:Int) else 0)=true
  ·rw[if_pos h2];have hl:=ky h1;refine ⟨?_,?_,by have:=hb.klen;show w.kept.length<=N+1;omega,hb.kdata,by have:=hb.plen;show w.pool.length<=N+1;omega,fun x hx=>(hb.pnode x hx).up,?_,hb.room⟩
   ·show (qo _ _).length<=N+1;refine WN zgd ?_;rw[jW hw.fs.rises hs.has];have:=hb.len;omega
   ·refine VQ (fun z hz=>?_) ⟨Wd _,ht,fun e he=>by cases he⟩;rcases (qG hs.has).1 hz with rfl | ⟨hz,_⟩
    ·exact kW (j9 hb.node hs.has) (by omega) _
    ·exact (hb.node z hz).up
   ·show w.fs.next+1<=_;have:=hb.next;omega
  ·rw[if_neg h2];exact hb.up
 ·rw[if_neg h1];exact hb.up
theorem fsB (hb:MN N w) {g:FsV} (h1:g.xs.length<=N+1) (h2:∀ x∈g.xs,U7 (N+1) x) (h3:g.next=w.fs.next) (h4:g.maxI=w.fs.maxI/\g.maxB=w.fs.maxB):MN (N+1) { w with fs:=g }:=
 ⟨h1,h2,OJ hb.klen,hb.kdata,OJ hb.plen,fun x hx=>(hb.pnode x hx).up,by show g.next<=_;rw[h3];have:=hb.next;omega,by show g.maxI<=_/\g.maxB<=_/\_<=g.maxI/\_<=g.maxB;rw[h4.1,h4.2];exact hb.room⟩
theorem M1 (k:zV) (ks:List zV):(qP k ks).length=ks.length+1:=UO k ks
theorem zm7 (hf:FsI f) (h1:f.xs.length<=N) (h2:∀ x∈f.xs,U7 N x) {s:zK} (hs:zM f s):(zI f s).xs.length<=N/\(∀ x∈(zI f s).xs,U7 N x)/\(zI f s).next=f.next/\(zI f s).maxI=f.maxI/\(zI f s).maxB=f.maxB:=by
 have hi:=zM.ino hf hs;have hd:∀ z∈ql s.dir (zj s.name) f.xs,U7 N z:=fun z hz=>by
  rcases (qG hs.has).1 hz with rfl | ⟨hz,_⟩
  ·exact Ue (j9 h2 hs.has) _
  ·exact h2 z hz
 have hl:=jW (F:=zj s.name) hf.rises hs.has;unfold zI;split
 ·refine ⟨?_,fun x hx=>hd x (Xo.1 hx).1,rfl,rfl,rfl⟩;show (qh _ _).length<=N;exact WN Zz (by rw[hl];exact h1)
 ·refine ⟨?_,VQ hd (j9 h2 hi),rfl,rfl,rfl⟩;show (qo _ _).length<=N;rw[J1 (show z6 (ql s.dir (zj s.name) f.xs) from zZ hf.rises) ?_,hl]
  ·exact h1
  ·show zk (zf s.ino f.xs).ino (ql _ _ _)=true;rw[(zi hi).2.2,zQ hs.has];exact hi
theorem doB (hw:Q9 w) (hb:MN N w) (o:OpV) (hd:o.d.length<=5000) (hk:o.kind<=7):MN (N+1) (doV w o).1:=by
 unfold doV;cases hm:UL o with
 | false=>exact hb.up
 | true =>
  obtain ⟨p1,p2,k1,_⟩:=QJ hm;rw[if_neg (by simp)];by_cases h1:o.kind=1
  ·rw[if_pos h1];exact znO hw hb p1 (by simp)
  rw[if_neg h1];by_cases h2:o.kind=2
  ·rw[if_pos h2];unfold Jk;split
   ·exact hb.up
   ·rename_i hfa;have hfa:=Zn hw.fs p1 (WE.1 hfa);refine znO hw hb (p2 (by rw[h2];rfl)) ?_;rw[hfa.2.2];exact (j9 hb.node hfa.1).2.1
  rw[if_neg h2];by_cases h3:o.kind=3
  ·rw[if_pos h3];have pb:=p2 (by rw[h3];rfl);unfold qL;split
   ·exact hb.up
   ·rename_i hfa;have hfa:=Zn hw.fs p1 (WE.1 hfa);split
    ·exact hb.up
    ·rename_i hfb;have hfb:=Zn hw.fs pb (WE.1 hfb);split
     ·exact hb.up
     ·split
      ·exact hb.up
      ·rename_i hkd;split
       ·exact hb.up
       ·rename_i hda;have hkd:=WE.1 hkd;have hda:=WE.1 hda;unfold qF at hkd ⊢;cases hn:MZ o.slot w.kept with
        | true=>rw[hn]at hkd;simp at hkd
        | false =>
         rw[if_neg (by simp)];unfold Xx at hda ⊢;by_cases hr:JS w.fs 0 (((qd w.fs o.a).1.data.length:Int)-(zf (qd w.fs o.b).1.ino w.fs.xs).data.length)=true
         ·rw[if_pos hr];have hg:=zi hfb.1;refine ⟨?_,?_,?_,fun k hk=>?_,OJ hb.plen,fun x hx=>(hb.pnode x hx).up,by have:=hb.next;show w.fs.next<=_;omega,hb.room⟩
          ·show (qo _ _).length<=N+1;rw[J1 hw.fs.rises (by show zk (zf _ _).ino _=true;rw[hg.2.2];exact hfb.1)];exact OJ hb.len
          ·refine VQ (fun z hz=>(hb.node z hz).up) ?_;have h7:=(j9 hb.node hfb.1).up;refine ⟨h7.1,?_,h7.2.2⟩;show (qd w.fs o.a).1.data.length<=5000;rw[hfa.2.2];exact (j9 hb.node hfa.1).2.1
          ·show (qP _ _).length<=N+1;rw[M1];have:=hb.klen;omega
          ·rcases QW.1 hk with rfl | hk
           ·exact (j9 hb.node hfb.1).2.1
           ·exact hb.kdata k hk
         ·rw[if_neg hr]at hda;cases hda
  rw[if_neg h3];by_cases h4:o.kind=4
  ·rw[if_pos h4];exact znO hw hb p1 hd
  rw[if_neg h4];by_cases h5:o.kind=5
  ·rw[if_pos h5];have pb:=p2 (by rw[h5];rfl);unfold jZ;simp only;split
   ·exact hb.up
   ·rename_i ha;obtain ⟨t1,t2⟩:=jB hw.fs p1 (WE.1 ha);split
    ·exact hb.up
    ·split
     ·exact hb.up
     ·rename_i hb2;have hb2:=WE.1 hb2;have hfree:=Ju hw.fs pb hb2;have hi:=zM.ino hw.fs t1;have e:(isV w.fs o.a true).2.1.ino=(isV w.fs o.a true).1.ino:=by rw[t2,(zi hi).2.2]
      rw[e];have hln:=zdV hw.fs pb (QF hb2);refine fsB hb ?_ ?_ rfl ⟨rfl,rfl⟩
      ·show (qo _ _).length<=N+1;rw[J1 (show z6 (ql (isV w.fs o.b false).1.dir (zL (isV w.fs o.b false).1.name (isV w.fs o.a true).1.ino) w.fs.xs) from zZ hw.fs.rises) (by show zk (zf _ _).ino _=true;rw[(zi hi).2.2,zQ hfree.has];exact hi),jW hw.fs.rises hfree.has];exact OJ hb.len
      ·refine VQ (fun z hz=>?_) (j9 hb.node hi).up;rcases (qG hfree.has).1 hz with rfl | ⟨hz,_⟩
       ·exact kW (j9 hb.node hfree.has) hln _
       ·exact (hb.node z hz).up
  rw[if_neg h5];by_cases h6:o.kind=6
  ·rw[if_pos h6];have pb:=p2 (by rw[h6];rfl);unfold YO;split
   ·exact hb.up
   ·rename_i ha;split
    ·exact hb.up
    ·rename_i hb2;have hb2:=WE.1 hb2;obtain ⟨t1,t2⟩:=jB hw.fs p1 (WE.1 ha);have hfree:=Ju hw.fs pb hb2;have hi:=zM.ino hw.fs t1;have hln:=zdV hw.fs pb (QF hb2);obtain ⟨g1,hg1⟩:∃ g1,ql (isV w.fs o.a true).1.dir (zj (isV w.fs o.a true).1.name) w.fs.xs=g1:=⟨_,rfl⟩;obtain ⟨g2,hg2⟩:∃ g2,ql (isV w.fs o.b false).1.dir (zL (isV w.fs o.b false).1.name (isV w.fs o.a true).1.ino) g1=g2:=⟨_,rfl⟩;have hR1:z6 g1:=by rw[←hg1];exact zZ hw.fs.rises
     have hb1:zk (isV w.fs o.b false).1.dir g1=true:=by rw[←hg1,zQ t1.has];exact hfree.has
     have hn1:∀ z∈g1,U7 N z:=fun z hz=>by
      rw[←hg1]at hz;rcases (qG t1.has).1 hz with rfl | ⟨hz,_⟩
      ·exact Ue (j9 hb.node t1.has) _
      ·exact hb.node z hz
     have hn2:∀ z∈g2,U7 (N+1) z:=fun z hz=>by
      rw[←hg2]at hz;rcases (qG hb1).1 hz with rfl | ⟨hz,_⟩
      ·exact kW (j9 hn1 hb1) hln _
      ·exact (hn1 z hz).up
     have hl2:g2.length=w.fs.xs.length:=by rw[←hg2,jW hR1 hb1,←hg1,jW hw.fs.rises t1.has]
     have hi2:zk (isV w.fs o.a true).1.ino g2=true:=by rw[←hg2,zQ hb1,←hg1,zQ t1.has];exact hi
     have hR2:z6 g2:=by rw[←hg2];exact zZ hR1
     unfold JG;rw[hg1,hg2];simp only;split
     ·refine fsB hb ?_ (VQ hn2 (j9 hn2 hi2)) rfl ⟨rfl,rfl⟩;show (qo _ _).length<=N+1;rw[J1 hR2 (by show zk (zf _ _).ino _=true;rw[(zi hi2).2.2];exact hi2),hl2];exact OJ hb.len
     ·refine fsB hb ?_ hn2 rfl ⟨rfl,rfl⟩;show g2.length<=N+1;rw[hl2];exact OJ hb.len
  rw[if_neg h6];unfold jf;simp only;split
  ·exact hb.up
  ·rename_i ha;split
   ·exact hb.up
   ·obtain ⟨t1,t2⟩:=jB hw.fs p1 (WE.1 ha);have hi:=zM.ino hw.fs t1;unfold XL;split
    ·exact hb.up
    ·obtain ⟨u1,u2,u3,u4,u5⟩:=zm7 hw.fs hb.len hb.node t1;refine ⟨OJ u1,fun x hx=>(u2 x hx).up,?_,fun k hk=>?_,?_,fun x hx=>?_,?_,?_⟩
     ·show (qP _ _).length<=N+1;rw[M1];have:=hb.klen;omega
     ·rcases QW.1 hk with rfl | hk
      ·exact Wd _
      ·exact hb.kdata k hk
     ·show (if _ then _ else _:List zl).length<=N+1;split
      ·exact WN zgd (by have:=hb.plen;omega)
      ·exact OJ hb.plen
     ·have hx:x∈(if (zf (isV w.fs o.a true).1.ino w.fs.xs).links=1 then qo { zf (isV w.fs o.a true).1.ino w.fs.xs with links:=0,parent:=0 } w.pool else w.pool):=hx;split at hx
      ·exact VQ (x:={ zf (isV w.fs o.a true).1.ino w.fs.xs with links:=0,parent:=0 }) (fun z hz=>(hb.pnode z hz).up) (show U7 (N+1) _ from (j9 hb.node hi).up) x hx
      ·exact (hb.pnode x hx).up
     ·show (zI _ _).next<=_;rw[u3];have:=hb.next;omega
     ·show (zI _ _).maxI<=_/\(zI _ _).maxB<=_/\_<=(zI _ _).maxI/\_<=(zI _ _).maxB;rw[u4,u5];exact hb.room
end
section
open CA CB
open Go.RowKit
section
variable {G:zq}
theorem vN (f:FsV):Fun Tryz.prog G 289 [.agg (fsC f)] (.sc (.int .i64 (f.xs.length:Nat))) 0:=by
 refine fon Tryz.func289 ?_;dsimp only[Tryz.f289];push_cast;exact dn (by push_cast [ze,zd,CLe,zh,show (zt f.xs).length=f.xs.length from We ..])
theorem zdw (f:FsV) (hf:FsS f):Fun Tryz.prog G 290 [.agg (fsC f)] (.sc (.int .i64 (z8 f.xs:Nat))) 0:=by
 have hll:(zt f.xs).length=f.xs.length:=We ..;have hb:=hf.bytes;have h4:=hf.len;have hb0:z8 []=0:=rfl;have hmono:∀ i,z8 (f.xs.take i)<=100000000:=fun i=>by
  have h1:=Hu (xs:=f.xs.take i) (n:=10000) fun x hx=>(hf.node x (Ww hx)).2.1;have h2:(f.xs.take i).length<=10000:=by rw[W2];have:=hf.len;omega
  have:(f.xs.take i).length*10000<=10000*10000:=WM _ h2;omega
 refine fon Tryz.func290 ?_;dsimp only[Tryz.f290];push_cast;refine loop (fun i:Nat=>⟨[(1,.ptr 0 0),(3,.sc (.int .i64 (z8 (f.xs.take i):Nat))),(7,.sc (.int .i64 (f.xs.length:Nat))),(8,.sc (.int .i64 i))],[fsC f],0,0⟩) (fun i=>i<=f.xs.length) (fun i=>f.xs.length-i) 0 (Wd _) ?_ ?_
 ·exact wk (by push_cast [ze,zd,CLe,zh,hb0,hll,Ow])
 ·intro i h1;by_cases h:i<f.xs.length
  ·have g1:=ju f.xs i h;have ht:=H6 h;have hm:=hmono (i+1);have hm0:=hmono i;rw[ht]at hm;by_cases hk:f.xs[i].kind=1
   ·rw[if_pos hk]at ht hm;push_cast [hll,h,g1,hk]
    repeat refine an ?_
    exact ⟨i+1,h,by omega,wk (by push_cast [ze,zd,CLe,zh,ht])⟩
   ·rw[if_neg hk]at ht hm;push_cast [hll,h,g1,hk]
    repeat refine an ?_
    exact ⟨i+1,h,by omega,wk (by push_cast [ze,zd,CLe,zh,ht,O8])⟩
  ·rw[Wg (by omega)];push_cast [hll,h];exact dn
theorem Ha (f:FsV) (hf:FsS f) (n b:Int) (hn:-1000000000<=n/\n<=1000000000) (hb:-1000000000<=b/\b<=1000000000):Fun Tryz.prog G 268 [.agg (fsC f),.sc (.int .i64 n),.sc (.int .i64 b)] (.sc (.bool (JS f n b))) 0:=by
 have h1:=vN (G:=G) f;have h2:=zdw (G:=G) f hf;have h3:=hf.bytes;have h4:=hf.len;by_cases c1:(f.xs.length:Int)+n<=f.maxI
 ·have e:JS f n b=decide ((z8 f.xs:Int)+b<=f.maxB):=by unfold JS;rw[Wl c1,Oj]
  refine fon Tryz.func268 ?_;dsimp only[Tryz.f268];push_cast;refine cl h1 ?_;push_cast [c1]
  repeat refine an ?_
  refine cl h2 ?_;push_cast
  repeat refine an ?_
  exact dn (by push_cast [ze,zd,CLe,zh,e])
 ·have e:JS f n b=false:=by unfold JS;rw[Wi c1,W6]
  refine fon Tryz.func268 ?_;dsimp only[Tryz.f268];push_cast;refine cl h1 ?_;push_cast [c1]
  repeat refine an ?_
  exact dn (by push_cast [ze,zd,CLe,zh,e])
end
end
section
open CA CB
open Go.RowKit
abbrev XN (s:zK):List C:=[.sc (.int .i64 s.dir),.str s.name,.sc (.int .i64 s.ino)]
theorem FsS.es (h:FsS f) {n:Int} (hh:zk n f.xs=true):(zf n f.xs).es.length<=10000:=(h.node _ (zi hh).2.1).1
theorem MT {xs:List Lz} (h:k<xs.length):(qj xs)[k]?=some [.str xs[k]]:=by simp[Wy,Wa h]
theorem NY (f:FsV) (hf:FsI f) (hs:FsS f) (p:Lz) (hp:p.length<=1000000):Fun Tryz.prog G0 257 [.agg (fsC f),.str p] (.tup [.agg (XN (atV f p).1),.sc (.int .i64 (atV f p).2)]) 0:=by
 have hpl:=yj p (by omega);have hlen:=hs.len;have hnl:(zn p).length<=1000000:=by have:=qW p;omega
 cases hpp:jK p with
 | false =>
  have e:atV f p=(js,9):=by unfold atV;rw[hpp];rfl
  unfold Y8 at hpl;rw[hpp]at hpl;refine fon Tryz.func257 ?_;dsimp only[Tryz.f257];push_cast;refine cl hpl ?_;push_cast;exact dn (by push_cast [ze,zd,CLe,zh,e,js])
 | true =>
  have e:atV f p=atW f.xs (zn p) ⟨0,[],1⟩:=by unfold atV;rw[hpp];rfl
  unfold Y8 at hpl;rw[hpp,if_pos rfl]at hpl;generalize zn p=ns at hpl hnl e;have hsl:(qj ns).length=ns.length:=We ..;refine fon Tryz.func257 ?_;dsimp only[Tryz.f257];push_cast;refine cl hpl ?_;push_cast;refine loop (fun x:Nat×zK=>⟨[(1,.str p),(2,.ptr 0 0),(4,.ptr 1 0),(8,.ptr 2 0),(24,.own 0 9 1 (qj ns)),(25,.sc (.int .i64 (ns.length:Nat))),(26,.sc (.int .i64 x.1))],[fsC f,[.sc (.int .i64 0),.str [],.sc (.int .i64 0)],XN x.2],1,0⟩)
   (fun x=>x.1<=ns.length/\atW f.xs ns ⟨0,[],1⟩=atW f.xs (ns.drop x.1) x.2/\(x.2.ino≠0->zk x.2.ino f.xs=true)) (fun x=>ns.length-x.1) (0,⟨0,[],1⟩) ⟨Wd _,rfl,fun _=>hf.root⟩ ?_ ?_
  ·exact wks [.inl 0] (by push_cast [ze,zd,CLe,zh,hsl])
  rintro ⟨k,s⟩ ⟨hk,hat,hin⟩;simp only at hk hat hin ⊢;by_cases hlt:k<ns.length
  ·have gs:=MT hlt;have hdr:ns.drop k=ns[k] :: ns.drop (k+1):=Ok hlt;obtain ⟨nm,hnm⟩:∃ nm,ns[k]=nm:=⟨_,rfl⟩;rw[hnm]at gs hdr;have hg:=qr (G:=G0) f s.ino (by omega) hf.rises;cases hh:zk s.ino f.xs with
   | false =>
    have h0:s.ino=0:=Ay fun hne=>by rw[hin hne]at hh;cases hh
    have hr:atV f p=(js,1):=by rw[e,hat,hdr];unfold atW;rw[if_pos h0]
    rw[hh]at hg;push_cast [hlt,gs]
    repeat refine an ?_
    refine cl hg ?_;push_cast;exact dn (by push_cast [ze,zd,CLe,zh,hr,js])
   | true =>
    have hn0:s.ino≠0:=Qj hf hh;have hgg:=zi hh;rw[hh]at hg;by_cases hk2:(zf s.ino f.xs).kind=2
    ·have hfd:=yg (G:=G0) (zf s.ino f.xs).es nm (by have:=hs.es hh;omega) (hf.es _ hgg.2.1);have hnx:atW f.xs ns ⟨0,[],1⟩=atW f.xs (ns.drop (k+1)) ⟨(zf s.ino f.xs).ino,nm,zY nm (zf s.ino f.xs).es⟩:=by
      rw[hat,hdr]
      conv=>lhs;unfold atW
      rw[if_neg hn0,if_neg (by simp[hk2])]
     have hin2:zY nm (zf s.ino f.xs).es≠0->zk (zY nm (zf s.ino f.xs).es) f.xs=true:=fun hne=>by
      refine VI hf hh ?_;unfold YM;rw[qx];cases hq:qM zN.name nm (zf s.ino f.xs).es with
      | some e=>rfl
      | none=>unfold zY at hne;rw[hq]at hne;exact absurd rfl hne
     push_cast [hlt,gs]
     repeat refine an ?_
     refine cl hg ?_;push_cast [hk2];refine cl hfd ?_;push_cast
     repeat refine an ?_
     exact ⟨(k+1,⟨(zf s.ino f.xs).ino,nm,zY nm (zf s.ino f.xs).es⟩),⟨hlt,hnx,hin2⟩,by simp only;omega,wks [.inl 0]⟩
    ·have hr:atV f p=(js,3):=by rw[e,hat,hdr];unfold atW;rw[if_neg hn0,if_pos hk2]
     push_cast [hlt,gs]
     repeat refine an ?_
     refine cl hg ?_;push_cast [hk2];exact dn (by push_cast [ze,zd,CLe,zh,hr,js])
  ·have hr:atV f p=(s,0):=by rw[e,hat,OI (by omega)];unfold atW;rfl
   push_cast [hlt];exact dn (by push_cast [ze,zd,CLe,zh,hr])
end
section
open CA CB
open Go.RowKit
abbrev zrn (f:FsV):Prop:=0<=f.next/\f.next<=4000000000000000000
theorem Hl (hf:FsI f):f.xs≠[]:=fun h=>by have:=hf.root;rw[h]at this;cases this
theorem Xr (hf:FsI f) {n:Int} (hh:zk n f.xs=true):JE (zf n f.xs).es:=hf.es _ (zi hh).2.1
theorem Fun.argsLe {G:zq} {f:FuncId} {args':List C} {r:C} {n:Nat} (h:Fun P G f args r n) (ha:∀ R vs,zx R zU args' vs->zx R zU args vs):Fun P G f args' r n:=
 ⟨h.1,fun R vs hg hv=>h.2 R vs hg (ha R vs hv)⟩
theorem zaq {R:Env} {L:Loc} {v:Value} (h:Rep R L (.sc (.slice none 0 0)) v):Rep R L (.sl k []) v:=by
 rw[zp]at h;subst h;unfold Rep;exact ⟨none,0,rfl,Wb _,Wd _,.inl rfl⟩
theorem znb {G:zq} (f:FsV) (x:zl) (hx:x.es = []) (hl:f.xs.length<=90000) (hR:z6 f.xs) :
  Fun Tryz.prog G 271 [.agg (fsC f),.agg [.sc (.int .i64 x.ino),.sc (.int .i64 x.kind),.sc (.int .i64 x.links),.str x.data,.sc (.int .i64 x.parent),.sc (.slice none 0 0)]] (.agg [.sc (.int .i64 f.maxI),.sc (.int .i64 f.maxB),.sc (.int .i64 f.next),.own 0 64 6 (zt (qo x f.xs))]) 1:=by
 refine (Xg f x hl hR).argsLe fun R vs h=>?_;obtain ⟨v1,us1,rfl,h1,h⟩:=zg.1 h;obtain ⟨v2,us2,rfl,h2,h⟩:=zg.1 h;refine zg.2 ⟨_,_,rfl,h1,zg.2 ⟨_,_,rfl,?_,h⟩⟩;obtain ⟨ws,rfl,hw⟩:=Jd.1 h2;obtain ⟨w1,t1,e1,g1,hw⟩:=zg.1 hw;obtain ⟨w2,t2,e2,g2,hw⟩:=zg.1 hw;obtain ⟨w3,t3,e3,g3,hw⟩:=zg.1 hw;obtain ⟨w4,t4,e4,g4,hw⟩:=zg.1 hw;obtain ⟨w5,t5,e5,g5,hw⟩:=zg.1 hw;obtain ⟨w6,t6,e6,g6,hw⟩:=zg.1 hw;refine Jd.2 ⟨ws,rfl,?_⟩;have g6':Rep R zU (.sl 2 (zO x.es)) w6:=by rw[hx];exact zaq g6
 rw[e1,e2,e3,e4,e5,e6];exact zg.2 ⟨_,_,rfl,g1,zg.2 ⟨_,_,rfl,g2,zg.2 ⟨_,_,rfl,g3,zg.2 ⟨_,_,rfl,g4,zg.2 ⟨_,_,rfl,g5,zg.2 ⟨_,_,rfl,g6',hw⟩⟩⟩⟩⟩⟩
theorem zcE (f:FsV) (hf:FsI f) (hs:FsS f) (hn:zrn f) (s:zK) (hsp:jr f s) (hnl:s.name.length<=100000) (k:Int) (t:Lz) (ht:t.length<=100000) :
  Fun Tryz.prog G0 239 [.agg (fsC f),.agg (XN s),.sc (.int .i64 k),.str t] (.tup [.agg (fsC (kw f s k t).1),.sc (.int .i64 (kw f s k t).2)]) 0:=by
 have hm:=uD s.name (by omega);have hlen:=hs.len;cases hmay:may s.name with
 | false =>
  have e:kw f s k t=(f,9):=by unfold kw;rw[hmay];rfl
  rw[hmay]at hm;by_cases hk:k=1
  ·have hk':=eq_true hk;refine fof (fun j=>if j=14 then [false,false,false,false,false,true] else []) Tryz.func239 ?_;dsimp only[Tryz.f239];push_cast [hk'];refine cl hm ?_;push_cast;exact dn (by push_cast [ze,zd,CLe,zh,e])
  ·have hk':=WG hk;refine fof (fun j=>if j=14 then [false,false,false,false,false,true] else []) Tryz.func239 ?_;dsimp only[Tryz.f239];push_cast [hk'];refine cl hm ?_;push_cast;exact dn (by push_cast [ze,zd,CLe,zh,e])
 | true =>
  rw[hmay]at hm;have key:∀ b:Int,(if k=1 then (t.length:Int) else 0)=b->JS f 1 b=false->kw f s k t=(f,8):=fun b hb hr=>by unfold kw;rw[hmay,if_pos rfl,hb,hr];rfl
  have key2:∀ b:Int,(if k=1 then (t.length:Int) else 0)=b->JS f 1 b=true->kw f s k t=(Q8 f s k t,0):=fun b hb hr=>by unfold kw;rw[hmay,if_pos rfl,hb,hr];rfl
  have hg:=qr (G:=G0) f s.dir (by omega) hf.rises;rw[hsp.has]at hg;have htk:=zii (G:=G0) f (by omega) (Hl hf) (by have:=hn.1;omega) (by have:=hn.2;omega);have hes:=hs.es hsp.has;have hw:=Hk (G:=G0) (zf s.dir f.xs).es s.name f.next (by omega) (Xr hf hsp.has);have hd1:=Xg (G:=G0) ⟨f.maxI,f.maxB,f.next+1,f.xs⟩ (qt (zf s.dir f.xs) (zL s.name f.next (zf s.dir f.xs).es)) (by simp only;omega) hf.rises;have hdl:(ql s.dir (zL s.name f.next) f.xs).length=f.xs.length:=jW hf.rises hsp.has;have hd2:=fun pr:Int=>znb (G:=G0) ⟨f.maxI,f.maxB,f.next+1,ql s.dir (zL s.name f.next) f.xs⟩ ⟨f.next,k,1,t,pr,[]⟩ rfl (by simp only;omega) (zZ hf.rises);have hx0:k=2->Q8 f s k t=⟨f.maxI,f.maxB,f.next+1,qo ⟨f.next,k,1,t,s.dir,[]⟩ (ql s.dir (zL s.name f.next) f.xs)⟩:=fun h=>by unfold Q8;rw[if_pos h]
  have hx1:k≠2->Q8 f s k t=⟨f.maxI,f.maxB,f.next+1,qo ⟨f.next,k,1,t,0,[]⟩ (ql s.dir (zL s.name f.next) f.xs)⟩:=fun h=>by unfold Q8;rw[if_neg h]
  unfold ql at hd2 hx0 hx1;by_cases hk:k=1
  ·have hk':=eq_true hk;have hk2:(k=2)=False:=WG (by omega);have hr:=Ha (G:=G0) f hs 1 t.length (by omega) (by omega);cases hrm:JS f 1 t.length with
   | false =>
    have e:=key _ (if_pos hk) hrm;rw[hrm]at hr;refine fof (fun j=>if j=14 then [false,false,false,false,false,true] else []) Tryz.func239 ?_;dsimp only[Tryz.f239];push_cast [hk'];refine cl hm ?_;push_cast;refine cl hr ?_;push_cast;exact dn (by push_cast [ze,zd,CLe,zh,e])
   | true =>
    have e:=key2 _ (if_pos hk) hrm;have ex:=hx1 (by omega);rw[hrm]at hr;refine fof (fun j=>if j=14 then [false,false,false,false,false,true] else []) Tryz.func239 ?_;dsimp only[Tryz.f239];push_cast [hk'];refine cl hm ?_;push_cast;refine cl hr ?_;push_cast;refine cl hg ?_;push_cast;refine cl htk ?_;push_cast [hk2];refine cl hw ?_;push_cast;refine cl hd1 ?_;push_cast;refine cl (hd2 0) ?_;push_cast;exact dn (by push_cast [ze,zd,CLe,zh,e,ex])
  ·have hk':=WG hk;have hr:=Ha (G:=G0) f hs 1 0 (by omega) (by omega);cases hrm:JS f 1 0 with
   | false =>
    have e:=key _ (if_neg hk) hrm;rw[hrm]at hr;refine fof (fun j=>if j=14 then [false,false,false,false,false,true] else []) Tryz.func239 ?_;dsimp only[Tryz.f239];push_cast [hk'];refine cl hm ?_;push_cast;refine cl hr ?_;push_cast;exact dn (by push_cast [ze,zd,CLe,zh,e])
   | true =>
    have e:=key2 _ (if_neg hk) hrm;rw[hrm]at hr;by_cases hk2:k=2
    ·have ex:=hx0 hk2;have hk2':=eq_true hk2;refine fof (fun j=>if j=14 then [false,false,false,false,false,true] else []) Tryz.func239 ?_;dsimp only[Tryz.f239];push_cast [hk'];refine cl hm ?_;push_cast;refine cl hr ?_;push_cast;refine cl hg ?_;push_cast;refine cl htk ?_;push_cast [hk2'];refine cl hw ?_;push_cast;refine cl hd1 ?_;push_cast;refine cl (hd2 s.dir) ?_;push_cast;exact dn (by push_cast [ze,zd,CLe,zh,e,ex])
    ·have ex:=hx1 hk2;have hk2':=WG hk2;refine fof (fun j=>if j=14 then [false,false,false,false,false,true] else []) Tryz.func239 ?_;dsimp only[Tryz.f239];push_cast [hk'];refine cl hm ?_;push_cast;refine cl hr ?_;push_cast;refine cl hg ?_;push_cast;refine cl htk ?_;push_cast [hk2'];refine cl hw ?_;push_cast;refine cl hd1 ?_;push_cast;refine cl (hd2 0) ?_;push_cast;exact dn (by push_cast [ze,zd,CLe,zh,e,ex])
end
section
open CA CB
open Go.RowKit
theorem yM {g:zl->Nat} {n:Nat}:∀ {xs:List zl},(∀ x∈xs,g x<=n)->N4 g xs<=xs.length*n
 | [],_=>by simp[N4]
 | x :: r,h=>by
  have ih:=yM (g:=g) (n:=n) (xs:=r) fun y hy=>h y (Wk _ hy);have hx:=h x Wj;unfold N4 at ih ⊢;simp only[WC,OO,Wr];rw[AM];omega
theorem zaE (hf:FsI f) (hs:FsS f) {n:Int} (hh:zk n f.xs=true):0<=(zf n f.xs).links/\(zf n f.xs).links<=100000000:=by
 have h1:=hf.links _ (zi hh).2.1;have h2:=yM (g:=Yk (zf n f.xs).ino) (n:=10000) (xs:=f.xs) fun x hx=>WN (Ak _ _) (hs.node x hx).1;have h3:=hs.len;have h4:f.xs.length*10000<=10000*10000:=WM _ h3;unfold Yf at h1;omega
theorem zkq (f:FsV) (hf:FsI f) (hs:FsS f) (s:zK) (hsp:jr f s) (i:Int) (hi:zk i f.xs=true) (hne:s.dir≠i):Fun Tryz.prog G0 244 [.agg (fsC f),.agg (XN s),.sc (.int .i64 i)] (.agg (fsC (Q4 f s i))) 0:=by
 have hlen:=hs.len;have hg:=qr (G:=G0) f s.dir (by omega) hf.rises;rw[hsp.has]at hg;have hes:=hs.es hsp.has;have hw:=Hk (G:=G0) (zf s.dir f.xs).es s.name i (by omega) (Xr hf hsp.has);have hd1:=Xg (G:=G0) f (qt (zf s.dir f.xs) (zL s.name i (zf s.dir f.xs).es)) (by omega) hf.rises;have hdl:(ql s.dir (zL s.name i) f.xs).length=f.xs.length:=jW hf.rises hsp.has;have hR1:z6 (ql s.dir (zL s.name i) f.xs):=zZ hf.rises;have hg2:=qr (G:=G0) ⟨f.maxI,f.maxB,f.next,ql s.dir (zL s.name i) f.xs⟩ i (by simp only;omega) hR1;simp only at hg2;rw[zQ hsp.has,hi,jS hsp.has,if_neg hne]at hg2;have hl:=zaE hf hs hi;have hd2:=Xg (G:=G0) ⟨f.maxI,f.maxB,f.next,ql s.dir (zL s.name i) f.xs⟩ { zf i f.xs with links:=(zf i f.xs).links+1 } (by simp only;omega) hR1;have e:Q4 f s i=⟨f.maxI,f.maxB,f.next,qo { zf i f.xs with links:=(zf i f.xs).links+1 } (ql s.dir (zL s.name i) f.xs)⟩:=rfl;unfold ql at hg2 hd2 e;refine fon Tryz.func244 ?_;dsimp only[Tryz.f244];push_cast;refine cl hg ?_;push_cast;refine cl hw ?_;push_cast;refine cl hd1 ?_;push_cast;refine cl hg2 ?_;push_cast
 repeat refine an ?_
 refine cl hd2 ?_;push_cast;exact dn (by push_cast [ze,zd,CLe,zh,e])
theorem zbl (f:FsV) (hf:FsI f) (hs:FsS f) (s:zK) (hsp:zM f s) (hne:s.dir≠s.ino):Fun Tryz.prog G0 247 [.agg (fsC f),.agg (XN s)] (.agg (fsC (zI f s))) 0:=by
 have hi:=zM.ino hf hsp;have hlen:=hs.len;have hg:=qr (G:=G0) f s.dir (by omega) hf.rises;rw[hsp.has]at hg;have hes:=hs.es hsp.has;have hhe:JZ zN.name s.name (zf s.dir f.xs).es=true:=by rw[qx,hsp.there];rfl
 have hw:=Um (G:=G0) (zf s.dir f.xs).es s.name (by omega) (Xr hf hsp.has) hhe;have hd1:=Xg (G:=G0) f (qt (zf s.dir f.xs) (zj s.name (zf s.dir f.xs).es)) (by omega) hf.rises;have hdl:(ql s.dir (zj s.name) f.xs).length=f.xs.length:=jW hf.rises hsp.has;have hR1:z6 (ql s.dir (zj s.name) f.xs):=zZ hf.rises;have hg2:=qr (G:=G0) ⟨f.maxI,f.maxB,f.next,ql s.dir (zj s.name) f.xs⟩ s.ino (by simp only;omega) hR1;simp only at hg2;rw[zQ hsp.has,hi,jS hsp.has,if_neg hne]at hg2;have hl:=zaE hf hs hi;have hxi:=(zi hi).2.2;have hd2:=Xg (G:=G0) ⟨f.maxI,f.maxB,f.next,ql s.dir (zj s.name) f.xs⟩ { zf s.ino f.xs with links:=(zf s.ino f.xs).links-1 } (by simp only;omega) hR1;have hd3:=ziG (G:=G0) ⟨f.maxI,f.maxB,f.next,ql s.dir (zj s.name) f.xs⟩ s.ino (by simp only;omega) hR1 (by intro h;have h0:f.xs = []:=An.1 (by rw[←hdl];exact Wv List.length h);exact Hl hf h0);have e0:zI f s=if (zf s.ino f.xs).links-1=0 then ⟨f.maxI,f.maxB,f.next,qh s.ino (ql s.dir (zj s.name) f.xs)⟩ else ⟨f.maxI,f.maxB,f.next,qo { zf s.ino f.xs with links:=(zf s.ino f.xs).links-1 } (ql s.dir (zj s.name) f.xs)⟩:=rfl;unfold ql at hg2 hd2 hd3 e0;by_cases hz:(zf s.ino f.xs).links-1=0
 ·rw[if_pos hz]at e0;have hz':=eq_true hz;rw[←hxi]at hd3;refine fon Tryz.func247 ?_;dsimp only[Tryz.f247];push_cast;refine cl hg ?_;push_cast;refine cl hw ?_;push_cast;refine cl hd1 ?_;push_cast;refine cl hg2 ?_;push_cast [hz']
  repeat refine an ?_
  refine cl hd3 ?_;push_cast;exact dn (by push_cast [ze,zd,CLe,zh,e0,hxi])
 ·rw[if_neg hz]at e0;have hz':=WG hz;refine fon Tryz.func247 ?_;dsimp only[Tryz.f247];push_cast;refine cl hg ?_;push_cast;refine cl hw ?_;push_cast;refine cl hd1 ?_;push_cast;refine cl hg2 ?_;push_cast [hz']
  repeat refine an ?_
  refine cl hd2 ?_;push_cast;exact dn (by push_cast [ze,zd,CLe,zh,e0])
theorem yG (f:FsV) (hf:FsI f) (hs:FsS f) (i:Int) (hi:zk i f.xs=true) (t:Lz) (ht:t.length<=10000):Fun Tryz.prog G0 242 [.agg (fsC f),.sc (.int .i64 i),.str t] (.tup [.agg (fsC (Xx f i t).1),.sc (.int .i64 (Xx f i t).2)]) 0:=by
 have hlen:=hs.len;have hg:=qr (G:=G0) f i (by omega) hf.rises;rw[hi]at hg;have hdat:=(hs.node _ (zi hi).2.1).2.1;have hr:=Ha (G:=G0) f hs 0 ((t.length:Int)-((zf i f.xs).data.length:Int)) (by omega) (by omega);have hd:=Xg (G:=G0) f { zf i f.xs with data:=t } (by omega) hf.rises;cases hrm:JS f 0 ((t.length:Int)-((zf i f.xs).data.length:Int)) with
 | false =>
  have e:Xx f i t=(f,8):=by unfold Xx;rw[hrm];rfl
  rw[hrm]at hr;refine fon Tryz.func242 ?_;dsimp only[Tryz.f242];push_cast;refine cl hg ?_;push_cast
  repeat refine an ?_
  refine cl hr ?_;push_cast;exact dn (by push_cast [ze,zd,CLe,zh,e])
 | true =>
  have e:Xx f i t=(⟨f.maxI,f.maxB,f.next,qo { zf i f.xs with data:=t } f.xs⟩,0):=by unfold Xx;rw[hrm];rfl
  rw[hrm]at hr;refine fon Tryz.func242 ?_;dsimp only[Tryz.f242];push_cast;refine cl hg ?_;push_cast
  repeat refine an ?_
  refine cl hr ?_;push_cast;refine cl hd ?_;push_cast;exact dn (by push_cast [ze,zd,CLe,zh,e])
end
section
open CA CB
open Go.RowKit
theorem ziU (f:FsV) (hf:FsI f) (hs:FsS f) (a b:zK) (ha:zM f a) (hb:jr f b) (hb0:b.ino=0):Fun Tryz.prog G0 245 [.agg (fsC f),.agg (XN a),.agg (XN b)] (.agg (fsC (JG f a b))) 0:=by
 have hai:=zM.ino hf ha;have hlen:=hs.len;have hhe:JZ zN.name a.name (zf a.dir f.xs).es=true:=by rw[qx,ha.there];rfl
 have hga:=qr (G:=G0) f a.dir (by omega) hf.rises;rw[ha.has]at hga;have hwa:=Um (G:=G0) (zf a.dir f.xs).es a.name (by have:=hs.es ha.has;omega) (Xr hf ha.has) hhe;have hda:=Xg (G:=G0) f (qt (zf a.dir f.xs) (zj a.name (zf a.dir f.xs).es)) (by omega) hf.rises;obtain ⟨g1,hg1⟩:∃ g1,ql a.dir (zj a.name) f.xs=g1:=⟨_,rfl⟩;obtain ⟨g2,hg2⟩:∃ g2,ql b.dir (zL b.name a.ino) g1=g2:=⟨_,rfl⟩;have hR1:z6 g1:=by rw[←hg1];exact zZ hf.rises
 have hR2:z6 g2:=by rw[←hg2];exact zZ hR1
 have hl1:g1.length=f.xs.length:=by rw[←hg1];exact jW hf.rises ha.has
 have hb1:zk b.dir g1=true:=by rw[←hg1,zQ ha.has];exact hb.has
 have hl2:g2.length=f.xs.length:=by rw[←hg2,jW hR1 hb1,hl1]
 have hi2:zk a.ino g2=true:=by rw[←hg2,zQ hb1,←hg1,zQ ha.has];exact hai
 have hgb:=qr (G:=G0) ⟨f.maxI,f.maxB,f.next,g1⟩ b.dir (by simp only;omega) hR1;simp only at hgb;rw[hb1]at hgb;have hres:JE (zf b.dir g1).es/\(zf b.dir g1).es.length<=10000:=by
  rw[←hg1,jS ha.has];split
  ·refine ⟨Ys (Xr hf ha.has),?_⟩;show (Ye zN.name _ _).length<=10000;have:=kL (key:=zN.name) a.name (zf a.dir f.xs).es;have:=hs.es ha.has;omega
  ·exact ⟨Xr hf hb.has,hs.es hb.has⟩
 have hwb:=Hk (G:=G0) (zf b.dir g1).es b.name a.ino (by have:=hres.2;omega) hres.1;have hdb:=Xg (G:=G0) ⟨f.maxI,f.maxB,f.next,g1⟩ (qt (zf b.dir g1) (zL b.name a.ino (zf b.dir g1).es)) (by simp only;omega) hR1;have hgx:=qr (G:=G0) ⟨f.maxI,f.maxB,f.next,g2⟩ a.ino (by simp only;omega) hR2;simp only at hgx;rw[hi2]at hgx;have hxi:=(zi hi2).2.2;have e0:JG f a b=if (zf a.ino g2).kind=2 then ⟨f.maxI,f.maxB,f.next,qo { zf a.ino g2 with parent:=b.dir } g2⟩ else ⟨f.maxI,f.maxB,f.next,g2⟩:=by unfold JG;rw[hg1,hg2]
 have hdx:=fun x:zl=>Xg (G:=G0) ⟨f.maxI,f.maxB,f.next,g2⟩ x (by simp only;omega) hR2;have hda':Fun Tryz.prog G0 271 [.agg (fsC f),.agg (Yw (qt (zf a.dir f.xs) (zj a.name (zf a.dir f.xs).es)))] (.agg [.sc (.int .i64 f.maxI),.sc (.int .i64 f.maxB),.sc (.int .i64 f.next),.own 0 64 6 (zt g1)]) 1:=by rw[←hg1];exact hda
 have hdb':Fun Tryz.prog G0 271 [.agg (fsC ⟨f.maxI,f.maxB,f.next,g1⟩),.agg (Yw (qt (zf b.dir g1) (zL b.name a.ino (zf b.dir g1).es)))] (.agg [.sc (.int .i64 f.maxI),.sc (.int .i64 f.maxB),.sc (.int .i64 f.next),.own 0 64 6 (zt g2)]) 1:=by rw[←hg2];exact hdb
 have hb0':=eq_true hb0;by_cases hk:(zf a.ino g2).kind=2
 ·rw[if_pos hk]at e0;have hk':=eq_true hk;have hd:=hdx { zf a.ino g2 with parent:=b.dir };refine fon Tryz.func245 ?_;dsimp only[Tryz.f245];push_cast [hb0'];refine cl hga ?_;push_cast;refine cl hwa ?_;push_cast;refine cl hda' ?_;push_cast;refine cl hgb ?_;push_cast;refine cl hwb ?_;push_cast;refine cl hdb' ?_;push_cast;refine cl hgx ?_;push_cast [hk'];refine cl hd ?_;push_cast;exact dn (by push_cast [ze,zd,CLe,zh,e0])
 ·rw[if_neg hk]at e0;have hk':=WG hk;have hsm:qo (zf a.ino g2) g2=g2:=xm hR2 (by rw[hxi];exact (zi hi2).1);have hd:=hdx (zf a.ino g2);rw[hsm]at hd;refine fon Tryz.func245 ?_;dsimp only[Tryz.f245];push_cast [hb0'];refine cl hga ?_;push_cast;refine cl hwa ?_;push_cast;refine cl hda' ?_;push_cast;refine cl hgb ?_;push_cast;refine cl hwb ?_;push_cast;refine cl hdb' ?_;push_cast;refine cl hgx ?_;push_cast [hk'];refine cl hd ?_;push_cast;exact dn (by push_cast [ze,zd,CLe,zh,e0])
end
section
open Go.RowKit
section
variable {G:zq}
theorem Gc (rows:List (List C)) (hk:∀ r∈rows,r.length=4) (hs:jA rows) (hl:rows.length<=100000) :
  Xe Tryz.prog G 280 [.sl 4 rows] [] 0 (zdW 4 rows):=by
 refine Xe.bySlice (fun h=>?_) (fun h a cap hr=>?_)
 ·refine foX (fun i=>if i=1000000+25 then [true,true] else []) Tryz.func280 ?_;dsimp only[Tryz.f280];push_cast;refine ⟨h,Vg ke Qg rfl rfl (by decide) rfl (qw hk) rfl (Wb _) (Wb _) (by omega) (by omega) (fun hc=>absurd hc ?_) (fun _ c hc hm=>?_)⟩
  ·have:=WI.2 h;omega
  ·push_cast;rw[Ov]at hc;refine ⟨_,_,_,⟨⟨rfl,.inl ⟨h,c,hc,hm,rfl,rfl⟩⟩,Wd _⟩,[],rfl,rfl,?_,by push_cast [ze,zd,CLe,zh]⟩;push_cast [ze,zd,CLe,zh];exact zS (zE hs)
 ·cases a with
  | none =>
   refine foX (fun i=>if i=1000000+25 then [true,true] else []) Tryz.func280 ?_;dsimp only[Tryz.f280];push_cast [hr,BQ];exact ⟨_,_,_,⟨⟨rfl,.inr ⟨h,.inl ⟨rfl,rfl⟩⟩⟩,Wd _⟩,[],rfl,rfl,by push_cast [ze,zd,CLe,zh],by push_cast [ze,zd,CLe,zh]⟩
  | some a =>
   refine foX (fun i=>if i=1000000+25 then [true,true] else []) Tryz.func280 ?_;dsimp only[Tryz.f280];push_cast [hr,BR];have hx:C.xs? 4 [[]] (C.sc (.slice (some a) 0 cap))=some (0,[]):=by simp[C.xs?,hr]
   refine Vg ke Qg hx rfl (by decide) rfl rfl rfl (Wb _) (Wb _) (by omega) (by omega) (fun _=>?_) (fun hc=>absurd hc (by omega));push_cast;exact ⟨_,_,_,⟨⟨rfl,.inr ⟨h,.inr ⟨rfl,rfl⟩⟩⟩,Wd _⟩,[],rfl,rfl,by (push_cast [ze,zd,CLe,zh];simp[spl,zh]),by push_cast [ze,zd,CLe,zh]⟩
theorem UG (rows:List (List C)) (x:List C) (i c e:Nat) (hk:∀ r∈rows,r.length=4) (hx:x.length=4) (hs:jA rows) (hsx:(x.all C.stayB)=true) (hl:rows.length<=100000) (hi:i<=rows.length) (hc:rows.length<=c) (hcm:c<=9223372036854775807) :
  Xe Tryz.prog G 279 [.bs 0 0 4 rows.length c,.sc (.int .i64 i),.own 0 e 4 [x]] [qz 4 rows c] 1 (zrJ 4 (c*4) (rows.take i++x :: rows.drop i)):=by
 refine foX (fun j=>if j=1000000+25 then [true,true] else if j=11 then [false,false,false,false,false,false,false,false,true] else if j=15 then [false,false,false,false,false,false,false,false,true] else []) Tryz.func279 ?_;dsimp only[Tryz.f279];push_cast;have hlen:(rows.take i++x :: rows.drop i).length=rows.length+1:=by simp;omega
 have hki:∀ r∈rows.take i++x :: rows.drop i,r.length=4:=fun r hr=>by
  rcases WB.1 hr with hr | hr
  ·exact hk r (Ww hr)
  ·rcases WJ.1 hr with rfl | hr
   ·exact hx
   ·exact hk r (WU hr)
 have hsi:jA (rows.take i++x :: rows.drop i):=fun r hr=>by
  rcases WB.1 hr with hr | hr
  ·exact hs r (Ww hr)
  ·rcases WJ.1 hr with rfl | hr
   ·exact hsx
   ·exact hs r (WU hr)
 have hbl:=JY hk hc;have hfl:=qw hk;have hxl:[x].flatten.length=1*4:=by simp[hx]
 have hpre:(qz 4 rows c).take rows.flatten.length=rows.flatten:=by unfold qz;rw[Bd]
 refine ⟨hc,⟨by omega,hi⟩,br (fun h=>?_) (fun h=>?_)⟩
 ·push_cast;refine Vg ke Qg rfl rfl (by decide) rfl hxl rfl (by rw[hbl];omega) hc (by simp;omega) (by simp;omega) (fun h1=>?_) (fun h1 c' h2 h3=>?_)
  ·push_cast;have hi':i=rows.length:=WP h;refine ⟨_,_,_,⟨⟨rfl,c,by rw[hlen];exact h1,hcm,.inl ⟨rfl,rfl⟩⟩,Wb _⟩,[],rfl,rfl,?_,by push_cast [ze,zd,CLe,zh,hlen]⟩;push_cast [ze,zd,CLe,zh];have h6:rows.length*4+4<=c*4:=by have:rows.length+1<=c:=h1;omega
   refine JQ hki hsi (by rw[hlen];exact h1) (by rw[Zi (by rw[hbl,hx];exact h6),hbl]) ?_;rw[hlen,hi',Oi,A3];unfold spl;rw[←hfl,hpre,OE (by simp[hx,hfl];omega)];simp
  ·push_cast;have hi':i=rows.length:=WP h;have h2':rows.length+1<=c':=h2;refine ⟨_,_,_,⟨⟨rfl,c',by rw[hlen];exact h2,h3,.inr ⟨rfl,rfl⟩⟩,OL rfl⟩,[],rfl,rfl,?_,by push_cast [ze,zd,CLe,zh,hlen]⟩;push_cast [ze,zd,CLe,zh];refine ⟨XF hbl,JQ hki hsi (by rw[hlen];exact h2) (by simp[hx,hbl];omega) ?_⟩;rw[hlen,hi',Oi,A3,←hfl,hpre,OE (by simp[hx,hfl];omega)];simp
 ·have hne:i≠rows.length:=OK h;push_cast;refine ⟨⟨by omega,by omega⟩,br (fun h1=>?_) (fun h1=>?_)⟩
  ·have h1':(c:Int)<(rows.length:Int)+1:=WP h1;push_cast
   repeat refine an ?_
   refine zlV ke zoO Qg rfl (by decide) rfl rfl (by rw[hbl];omega) (by omega) (by omega) (by omega) (by omega) (by omega) (fun c' B h2 h3 hBl hBt=>?_);have e1:((rows.length:Int)+1-(i:Int)).toNat=rows.length+1-i:=by omega
   rw[e1]at h2 ⊢;have e2:i+(rows.length+1-i)=rows.length+1:=by omega
   rw[e2]at h2 ⊢;push_cast
   repeat refine an ?_
   refine X6 ke Qg rfl rfl hxl (by rw[hBl];omega) (fun B1 hB1 hl1=>?_);rw[hBl]at hl1;push_cast
   repeat refine an ?_
   have hbp:=XO (c:=c) hk hi;refine X6 ke Qg (kK rfl (by rw[hbl];omega)) rfl (by rw[hbp,W7,hfl];omega) (by rw[hl1];omega) (fun B2 hB2 hl2=>?_);rw[hl1]at hl2;have hX:[x].flatten.take (min [x].length (rows.length+1-i)*4)=x:=by
    rw[Aj,OD (by omega),Wg (by omega)];simp
   rw[hX]at hB1;rw[hbp,show min (rows.length-i) (rows.length-i)*4=(rows.length-i)*4 by omega,Wg (by rw[W7,hfl];omega),hB1]at hB2;push_cast;refine ⟨_,_,_,⟨⟨rfl,c',by rw[hlen];exact h2,h3,.inr ⟨rfl,rfl⟩⟩,OL rfl⟩,[],rfl,rfl,?_,by push_cast [ze,zd,CLe,zh,hlen]⟩;push_cast [ze,zd,CLe,zh];refine ⟨XF hbl,JQ hki hsi (by rw[hlen];exact h2) hl2 ?_⟩;rw[hlen,←QZ hk,hB2];have hg:=Nn (cs:=B) (L:=rows.flatten) (X:=x) (p:=i*4) (q:=(i+1)*4) (by omega) (by omega) (by
    rw[hBt,AS];unfold qz;rw[OM (by omega)]) (by omega)
   rw[hfl,hx]at hg;rw[←hg];congr 1;omega
  ·have h1':¬(c:Int)<(rows.length:Int)+1:=OK h1;push_cast
   repeat refine an ?_
   refine znJ (yy (P:=Tryz.prog) (tR:=4) Tryz.func297 (by kernel_rfl) (by kernel_rfl) (by kernel_rfl) (by kernel_rfl) ke Qg rfl (Bf (by rw[hbl];omega)) (by simp) (by omega)) ?_;push_cast
   repeat refine an ?_
   have hbp:=XO (c:=c) hk hi;refine X6 ke Qg (kK rfl (by rw[hbl];omega)) rfl (by simp[hbl];omega) (by rw[hbl];omega) (fun B1 hB1 hl1=>?_);rw[hbl]at hl1;rw[BS,OD (by omega),show min (rows.length+1-i) (rows.length-i)*4=(rows.length-i)*4 by omega,hbp]at hB1;push_cast
   repeat refine an ?_
   refine X6 ke Qg rfl rfl hxl (by rw[hl1];omega) (fun B2 hB2 hl2=>?_);rw[hl1]at hl2;have hX:[x].flatten.take (min [x].length (rows.length+1-i)*4)=x:=by
    rw[Aj,OD (by omega),Wg (by omega)];simp
   rw[hX,hB1]at hB2;push_cast;have hcc:rows.length+1<=c:=by omega
   refine ⟨_,_,_,⟨⟨rfl,c,by rw[hlen];exact hcc,hcm,.inl ⟨rfl,rfl⟩⟩,OL rfl⟩,[],rfl,rfl,?_,by push_cast [ze,zd,CLe,zh,hlen]⟩;push_cast [ze,zd,CLe,zh];refine JQ hki hsi (by rw[hlen];exact hcc) hl2 ?_;rw[hlen,←QZ hk,hB2];have hg:=kD (cs:=qz 4 rows c) (L:=rows.flatten) (X:=x) (p:=i*4) (q:=(i+1)*4) (by omega) (by omega) hpre (by omega);rw[hfl,hx]at hg;rw[←hg];congr 1;omega
theorem zbi {e:Nat} (x:List C) (hx:x.length=4) (hsx:(x.all C.stayB)=true) :
  Xe Tryz.prog G 279 [.sc (.slice none 0 0),.sc (.int .i64 0),.own 0 e 4 [x]] [] 1 (fun r bx' n=>n=0/\∃ c,1<=c/\c<=9223372036854775807/\r = .bs 0 0 4 1 c/\bx' = [qz 4 [x] c]):=by
 refine foX (fun j=>if j=1000000+25 then [true,true] else if j=11 then [false,false,false,false,false,false,false,false,true] else if j=15 then [false,false,false,false,false,false,false,false,true] else []) Tryz.func279 ?_;dsimp only[Tryz.f279];push_cast;refine NR ke Qg rfl rfl (by decide) rfl (by simp[hx]) (by simp) (by simp) (by simp) (fun c h1 h2=>?_);push_cast;refine ⟨_,_,_,⟨⟨rfl,c,h1,h2,rfl,rfl⟩,Wd _⟩,[],rfl,rfl,?_,by push_cast [ze,zd,CLe,zh]⟩;push_cast [ze,zd,CLe,zh];have:=zS (src:=[]) (n:=1) (zE (k:=4) (c:=c) (rows:=[x]) fun r hr=>by
  rw[WT.1 hr];exact hsx)
 unfold qz at this ⊢;simpa using this
end
end
section
open CA CB
open Go.RowKit
abbrev JR (k:zV):List C:=[.sc (.int .i64 k.slot),.sc (.int .i64 k.ino),.sc (.bool k.content),.str k.data]
abbrev zJ (ks:List zV):List (List C):=ks.map JR
theorem J2 (ks:List zV) (i:Nat) (h:i<ks.length):(zJ ks)[i]?=some (JR ks[i]):=by simp[Wy,Wa h]
abbrev N8 (w:qH):List C:=[.sc (.int .i64 w.fs.maxI),.sc (.int .i64 w.fs.maxB),.sc (.int .i64 w.fs.next),.sl 6 (zt w.fs.xs),.sl 4 (zJ w.kept),.sl 6 (zt w.pool)]
abbrev Xm (w:qH):C:=.agg (N8 w)
theorem zg5 (a b:Int):UI a b<0↔Jq.lt a b=true:=by
 show UI a b<0↔decide (a<b)=true;unfold UI;rw[WR];split
 ·simp;assumption
 ·split<;>omega
theorem zfw (a b:Int):UI a b=0↔a=b:=by
 unfold UI;split
 ·constructor
  ·intro h;cases h
  ·intro h;omega
 ·split
  ·constructor
   ·intro h;cases h
   ·intro h;omega
  ·constructor
   ·intro _;omega
   ·intro _;rfl
section
variable {G:zq}
theorem zia (k:zV):Fun Tryz.prog G 274 [.agg (JR k)] (.sc (.int .i64 k.slot)) 0:=by
 refine fon Tryz.func274 ?_;dsimp only[Tryz.f274];push_cast;exact dn
theorem za6 (k:zV) (n:Int):Fun Tryz.prog G 294 [.agg (JR k),.sc (.int .i64 n),.row [.clo (.func 274) [] []]] (.sc (.int .i64 (UI k.slot n))) 0:=by
 refine fon Tryz.func294 ?_;dsimp only[Tryz.f294];push_cast;refine cl (zia k) ?_;push_cast;refine cl (yD k.slot n) ?_;push_cast;exact dn
theorem x8 (ks:List zV) (n:Int) (hl:ks.length<=100000) (hR:qU Jq zV.slot ks) :
  Fun Tryz.prog G 293 [.sl 4 (zJ ks),.sc (.int .i64 n),.clo (.func 294) [] [.row [.clo (.func 274) [] []]]] (.tup [.sc (.int .i64 (qv Jq zV.slot n ks:Nat)),.sc (.bool (JZ zV.slot n ks))]) 0:=by
 refine fon Tryz.func293 ?_;dsimp only[Tryz.f293];push_cast;refine loop (fun p:Nat×Nat=>⟨[(0,.sl 4 (zJ ks)),(1,.sc (.int .i64 n)),(2,.clo (.func 294) [] [.row [.clo (.func 274) [] []]]),(8,.sc (.int .i64 (ks.length:Nat))),(9,.sc (.int .i64 p.1)),(10,.sc (.int .i64 p.2))],[],0,0⟩)
  (fun p=>p.1<=p.2/\p.2<=ks.length/\(∀ t (h:t<ks.length),t<p.1->(Jq).lt (zV.slot ks[t]) n=true)/\∀ t (h:t<ks.length),p.2<=t->(Jq).lt (zV.slot ks[t]) n=false) (fun p=>p.2-p.1) (0,ks.length) ⟨Wd _,Wb _,fun t _ h=>by (simp at h),fun t h h'=>by (dsimp only at h';omega)⟩ ?_ ?_
 ·exact wk (by push_cast [ze,zd,CLe,zh,We])
 ·rintro ⟨i,j⟩ ⟨h1,h2,h3,h4⟩;dsimp only at h1 h2 h3 h4 ⊢;by_cases h:i<j
  ·obtain ⟨m,hm⟩:∃ m,m=(i+j) / 2:=⟨_,rfl⟩;have hmi:((i:Int)+(j:Int)) / 2=(m:Int):=by omega
   have hml:m<ks.length:=by omega
   have hat:=J2 ks m hml;have hlt:=(zg5 ks[m].slot n);push_cast [h,hmi,hat]
   repeat refine an ?_
   refine cl ((za6 ks[m] n)) ?_;push_cast;cases hc:(Jq).lt (zV.slot ks[m]) n with
   | true =>
    have hcv:(UI ks[m].slot n<0)=True:=eq_true (hlt.mpr hc);push_cast [hcv]
    repeat refine an ?_
    refine ⟨(m+1,j),⟨by omega,h2,fun t ht hlt2=>?_,h4⟩,by dsimp only;omega,wk⟩;dsimp only at hlt2;rcases Wp t m with q | q
    ·exact (Jq).tr ((WO.1 hR) t m ht hml q) hc
    ·have:t=m:=by omega
     subst this;exact hc
   | false =>
    have hcv:(UI ks[m].slot n<0)=False:=WG (fun e=>by have h7:(Jq).lt (zV.slot ks[m]) n=true:=hlt.mp e;rw[hc]at h7;cases h7);push_cast [hcv]
    repeat refine an ?_
    refine ⟨(i,m),⟨by omega,by omega,h3,fun t ht hge=>?_⟩,by dsimp only;omega,wk⟩;dsimp only at hge;rcases Wp m t with q | q
    ·cases h9:(Jq).lt (zV.slot ks[t]) n with
     | false=>rfl
     | true=>have:=(Jq).tr ((WO.1 hR) m t hml ht q) h9;rw[hc]at this;cases this
    ·have:t=m:=by omega
     subst this;exact hc
  ·have hij:i=j:=by omega
   subst hij;have hrk:=ZR (o:=Jq) (key:=zV.slot) n ks i h2 h3 h4;push_cast [h];refine br (fun hx=>?_) (fun hx=>?_)
   ·have hx:i<ks.length:=by simpa using hx
    have hat:=J2 ks i hx;have hh:=yx n hR hrk hx;push_cast [hx,hat]
    repeat refine an ?_
    refine cl ((za6 ks[i] n)) ?_;push_cast;have hcv:decide (UI ks[i].slot n=0)=JZ zV.slot n ks:=by
     rw[hh];exact A5.2 (zfw ks[i].slot n)
    push_cast [hcv];exact dn (by push_cast [ze,zd,CLe,zh,hrk])
   ·have hx:¬i<ks.length:=by simpa using hx
    have hh:=G3 n hR (by omega);push_cast [hx];exact dn (by push_cast [ze,zd,CLe,zh,hrk,hh])
theorem vO (ks:List zV) (n:Int) (hl:ks.length<=100000) (hR:qU Jq zV.slot ks):Fun Tryz.prog G 273 [.sl 4 (zJ ks),.sc (.int .i64 n),.clo (.func 274) [] []] (.tup [.sc (.int .i64 (qv Jq zV.slot n ks:Nat)),.sc (.bool (JZ zV.slot n ks))]) 0:=by
 refine fon Tryz.func273 ?_;dsimp only[Tryz.f273];push_cast;refine zcL [.sl 4 (zJ ks),.sc (.int .i64 n),.clo (.func 294) [] [.row [.clo (.func 274) [] []]]] (x8 ks n hl hR) rfl ?_ ?_
 ·simp[jH,YR,C.frz,C.frzL]
 push_cast;exact dn
def VA (n:Int) (ks:List zV):zV:=(qM zV.slot n ks).getD znf
theorem MR (w:qH) (n:Int) (hl:w.kept.length<=100000) (hR:qU Jq zV.slot w.kept):Fun Tryz.prog G 246 [Xm w,.sc (.int .i64 n)] (.tup [.agg (JR (VA n w.kept)),.sc (.bool (MZ n w.kept))]) 0:=by
 obtain ⟨_,_,h3,h4⟩:=UC n hR;have h:=vO (G:=G) w.kept n hl hR;cases hh:JZ zV.slot n w.kept with
 | false =>
  have hf:VA n w.kept=znf:=by unfold VA;rw[(h4 hh).1];rfl
  have he:MZ n w.kept=false:=hh;rw[hh]at h;refine fon Tryz.func246 ?_;dsimp only[Tryz.f246];push_cast;refine cl h ?_;push_cast;exact dn (by push_cast [ze,zd,CLe,zh,hf,he,znf])
 | true =>
  obtain ⟨hlt,_,g2,_⟩:=h3 hh;have hf:VA n w.kept=w.kept[qv Jq zV.slot n w.kept]:=by unfold VA;rw[g2];rfl
  have he:MZ n w.kept=true:=hh;have hat:=J2 w.kept _ hlt;rw[hh]at h;refine fon Tryz.func246 ?_;dsimp only[Tryz.f246];push_cast;refine cl h ?_;push_cast [hat]
  repeat refine an ?_
  exact dn (by push_cast [ze,zd,CLe,zh,hf,he])
end
end
section
open Go.RowKit Go.ChangeMaps Go.ChangeShapes Go.WideShapes Go.Deep Go.Joins
section
variable {H:Type} {enc:TypeId×Value->H} {P:Program} {W:World}
theorem Jc.two {t:TypeId} {f1 f2:Field} {k1 k2:Nat} {Q1 Q2:List C->Prop} (hs:P.underlying t=some (.struct #[f1,f2])) (h1:Jc enc P W f1.type k1 Q1) (h2:Jc enc P W f2.type k2 Q2)
  (e1:f1.offset=0) (e2:P.cellsOf f1.type=k1) (e3:f2.offset=k1) (e4:P.cellsOf f2.type=k2) (e5:P.cellsOf t=k1+k2):Jc enc P W t (k1+k2) fun row=>∃ a b,row=a++b/\Q1 a/\Q2 b:=fun fuel cs x hx=>by
 obtain ⟨ys,n',hn',hy,hlen,hyl,hf⟩:=DataW.trod_struct hs hx;rw[e5]at hlen;have g1:=hf 0 f1 rfl;have g2:=hf 1 f2 rfl;have hy2:ys.length=2:=by simpa using hyl
 rw[e1,e2,AS,Wa (by omega)]at g1;rw[e3,e4,Wa (by omega)]at g2;obtain ⟨a,qa,la,la',ra⟩:=h1 _ _ _ g1;obtain ⟨b,qb,lb,lb',rb⟩:=h2 _ _ _ g2;refine ⟨a++b,⟨a,b,rfl,qa,qb⟩,by rw[Wn,la,lb],hlen,fun j c v h3 h4=>?_⟩;rcases Wp j k1 with hj | hj
 ·rw[Wt (by omega)]at h3;exact ra j c v h3 (by rw[Bm hj];exact h4)
 ·rw[WK (by omega),la]at h3;have hjl:=(Wc.1 h3).1;refine rb (j-k1) c v h3 ?_;rw[Bm (by omega),W3,show k1+(j-k1)=j by omega];exact h4
theorem zkF:Jc enc Tryz.prog W 105 4 fun row=>∃ o:zV,row=JR o/\o.data.length<=maxLen:=fun fuel cs x hx=>by
 obtain ⟨row,⟨hl,hq⟩,h1,h2,h3⟩:=Jc.struct (W:=W) (enc:=enc) (Qs:=fun j c=>match j with | 0=>∃ n,c = .sc (.int .i64 n)/\(Lit.int .i64 n).wf=true | 1=>∃ n,c = .sc (.int .i64 n)/\(Lit.int .i64 n).wf=true | 2=>∃ b,c = .sc (.bool b) | 3=>∃ l:Lz,c = .str l/\l.length<=maxLen | _=>True) Tryz.underlying105 (by kernel_rfl) (by kernel_rfl) (fun j f hj=>by
  match j,hj with
  | 0,hj=>cases hj;exact Opn.int Tryz.underlying3
  | 1,hj=>cases hj;exact Opn.int Tryz.underlying3
  | 2,hj=>cases hj;exact Opn.bool Tryz.underlying4
  | 3,hj=>cases hj;exact Opn.str Tryz.underlying9
  | j+4,hj=>simp at hj) fuel cs x hx
 match row,h1,hq,h3 with
 | [c0,c1,c2,c3],_,hq,h3 =>
  obtain ⟨a,rfl,_⟩:=hq 0 c0 rfl;obtain ⟨b,rfl,_⟩:=hq 1 c1 rfl;obtain ⟨c,rfl⟩:=hq 2 c2 rfl;obtain ⟨d,rfl,hd⟩:=hq 3 c3 rfl;exact ⟨_,⟨⟨a,b,c,d⟩,rfl,hd⟩,rfl,h2,h3⟩
theorem zf6:Opn enc Tryz.prog W 25 fun c=>∃ xs:List zV,c = .sl 4 (zJ xs)/\xs.length<=maxLen/\∀ x∈xs,x.data.length<=maxLen:=fun fuel cs x hx=>by
 obtain ⟨v,c,rfl,⟨rows,rfl,hl,hr⟩,h1,h2⟩:=Opn.slice (W:=W) (enc:=enc) Tryz.underlying25 (show Tryz.prog.cellsOf 105=4 by kernel_rfl) (by decide) zkF fuel cs x hx;obtain ⟨xs,rfl,hq⟩:=Nk hr;exact ⟨v,_,rfl,⟨xs,rfl,by simpa using hl,hq⟩,h1,h2⟩
theorem zd3:Jc enc Tryz.prog W 27 2 fun row=>∃ (ks:List zV) (pool:List zl),row = [.sl 4 (zJ ks),.sl 6 (zt pool)]/\ks.length<=maxLen/\pool.length<=maxLen:=fun fuel cs x hx=>by
 obtain ⟨row,⟨hl,hq⟩,h1,h2,h3⟩:=Jc.struct (W:=W) (enc:=enc) (Qs:=fun j c=>match j with | 0=>∃ xs:List zV,c = .sl 4 (zJ xs)/\xs.length<=maxLen/\∀ x∈xs,x.data.length<=maxLen | 1=>∃ xs:List zl,c = .sl 6 (zt xs)/\xs.length<=maxLen/\∀ x∈xs,zf9 x | _=>True) Tryz.underlying27 (by kernel_rfl) (by kernel_rfl) (fun j f hj=>by
  match j,hj with
  | 0,hj=>cases hj;exact zf6
  | 1,hj=>cases hj;exact zad
  | j+2,hj=>simp at hj) fuel cs x hx
 match row,h1,hq,h3 with
 | [c0,c1],_,hq,h3 =>
  obtain ⟨a,rfl,ha,_⟩:=hq 0 c0 rfl;obtain ⟨b,rfl,hb,_⟩:=hq 1 c1 rfl;exact ⟨_,⟨a,b,rfl,ha,hb⟩,rfl,h2,h3⟩
theorem zhs:Jc enc Tryz.prog W 29 6 fun row=>∃ w:qH,row=N8 w/\w.fs.xs.length<=maxLen:=fun fuel cs x hx=>by
 obtain ⟨row,⟨a,b,rfl,⟨f,rfl,hf,_⟩,⟨ks,pool,rfl,_⟩⟩,h1,h2,h3⟩:=Jc.two (W:=W) (enc:=enc) Tryz.underlying29 zpT zd3 rfl (by kernel_rfl) rfl (by kernel_rfl) (by kernel_rfl) fuel cs x hx;exact ⟨_,⟨⟨f,ks,pool⟩,rfl,hf⟩,h1,h2,h3⟩
end
end
section
open CA CB
open Go.RowKit
section
variable {G:zq}
theorem z7:∀ r∈zJ ks,r.length=4:=fun r hr=>by
 obtain ⟨x,_,rfl⟩:=WQ.1 hr;rfl
theorem zw:jA (zJ ks):=fun r hr=>by
 obtain ⟨x,_,rfl⟩:=WQ.1 hr;rfl
theorem xG (w:qH) (k:zV) (hl:w.kept.length<=90000) (hR:qU Jq zV.slot w.kept) (hn:MZ k.slot w.kept=false):Fun Tryz.prog G 252 [Xm w,.agg (JR k)] (Xm { w with kept:=qP k w.kept }) 0:=by
 obtain ⟨_,_,h3,h4⟩:=UC (o:=Jq) k.slot hR;have hll:(zJ w.kept).length=w.kept.length:=We ..;have hat:=vO (G:=G) w.kept k.slot (by omega) hR;have hrl:=Vh (o:=Jq) (key:=zV.slot) k.slot w.kept;have hn':JZ zV.slot k.slot w.kept=false:=hn;rw[hn']at hat;have hw:qP k w.kept=w.kept.take (qv Jq zV.slot k.slot w.kept)++k :: w.kept.drop (qv Jq zV.slot k.slot w.kept):=(h4 hn').2.2 k rfl;have hset:zJ (qP k w.kept)=(zJ w.kept).take (qv Jq zV.slot k.slot w.kept)++JR k :: (zJ w.kept).drop (qv Jq zV.slot k.slot w.kept):=by rw[hw];simp
 have hsl:(zJ (qP k w.kept)).length=(zJ w.kept).length+1:=by rw[hset];simp;omega
 refine foF (fun i=>if i=2 then Hq [(0,.pure),(1,.pure),(2,.pure),(4,.pure),(5,.pure),(6,.pure),(3,.flt [3,4,5]),(7,.bar),(8,.pure),(9,.pure),(10,.bar)] else []) Tryz.func252 ?_;dsimp only[Tryz.f252];push_cast;refine cl hat ?_;push_cast;refine zgi [] (Gc (zJ w.kept) z7 zw (by omega)) (by decide) (by simp) (by push_cast) (by push_cast) (fun r bx' m hp=>?_);obtain ⟨rfl,⟨hne,c,h1,h2,rfl,rfl⟩ | ⟨he,⟨rfl,rfl⟩ | ⟨rfl,rfl⟩⟩⟩:=hp
 ·have hbl:=JY z7 h1;have hre:∀ fp fo,C.reL fp fo (qz 4 (zJ w.kept) c)=qz 4 (zJ w.kept) c:=fun fp fo=>zC (zE zw);have hpos:=WI.2 hne;have hre2:∀ fp fo c,C.reL fp fo (qz 4 (zJ (qP k w.kept)) c)=qz 4 (zJ (qP k w.kept)) c:=fun fp fo c=>zC (zE zw);push_cast [hre];refine jU [4] [0] (UG (e:=105) (zJ w.kept) (JR k) (qv Jq zV.slot k.slot w.kept) c z7 rfl zw rfl (by omega) (by omega) h1 h2) rfl (by decide) (by decide) (by simp) (by push_cast) (by push_cast [hre]) (fun r bx' m hp=>?_);rw[←hset]at hp;obtain ⟨rfl,c',g1,g2,⟨rfl,rfl⟩ | ⟨rfl,rfl⟩⟩:=hp
  ·push_cast [hre2,hre];exact ⟨[(4,105,4,zJ (qP k w.kept),c')],[],zA rfl (by omega) g1 g2 z7 zw,rfl,rfl,by push_cast [ze,zd,CLe,zh]⟩
  ·have hra:∀ fp fo,C.reL fp fo (List.replicate (c*4) .any)=List.replicate (c*4) .any:=fun fp fo=>zC (by simp[OG,C.stayB]);push_cast [hre2,hre,hra];exact ⟨[(5,105,4,zJ (qP k w.kept),c')],[],zA rfl (by omega) g1 g2 z7 zw,rfl,rfl,by push_cast [ze,zd,CLe,zh]⟩
 ·have he:w.kept = []:=by simpa using he
  have hr0:qv Jq zV.slot k.slot w.kept=0:=by rw[he];rfl
  have hs1:qP k w.kept = [k]:=by rw[he];rfl
  push_cast [hr0];refine jU [] [0] (zbi (e:=105) (JR k) rfl rfl) rfl (by decide) (by decide) (by simp) (by push_cast) (by push_cast) (fun r bx' m hp=>?_);obtain ⟨rfl,c,g1,g2,rfl,rfl⟩:=hp;have hre:∀ fp fo,C.reL fp fo (qz 4 [JR k] c)=qz 4 [JR k] c:=fun fp fo=>zC (zE (zw (ks:=[k])));push_cast [hre];exact ⟨[(3,105,4,zJ [k],c)],[],zA rfl (by omega) g1 g2 z7 zw,rfl,rfl,by push_cast [ze,zd,CLe,zh,hs1]⟩
 ·have he:w.kept = []:=by simpa using he
  have hr0:qv Jq zV.slot k.slot w.kept=0:=by rw[he];rfl
  have hs1:qP k w.kept = [k]:=by rw[he];rfl
  push_cast [hr0];refine jU [3] [0] (UG (e:=105) [] (JR k) 0 0 (fun r hr=>by cases hr) rfl (fun r hr=>by cases hr) rfl (by simp) (by simp) (by simp) (by simp)) rfl (by decide) (by decide) (by simp) (by push_cast) (by push_cast [qz]) (fun r bx' m hp=>?_);obtain ⟨rfl,c,g1,g2,hp⟩:=hp;have hre:∀ fp fo,C.reL fp fo (qz 4 [JR k] c)=qz 4 [JR k] c:=fun fp fo=>zC (zE (zw (ks:=[k])));rcases hp with ⟨rfl,rfl⟩ | ⟨rfl,rfl⟩
  ·push_cast [hre];exact ⟨[(3,105,4,zJ [k],c)],[],zA rfl (WH (AR _) g1) g1 g2 z7 zw,rfl,rfl,by push_cast [ze,zd,CLe,zh,hs1]⟩
  ·push_cast [hre];exact ⟨[(4,105,4,zJ [k],c)],[],zA rfl (WH (AR _) g1) g1 g2 z7 zw,rfl,rfl,by push_cast [ze,zd,CLe,zh,hs1]⟩
theorem Z7 (f:FsV) (hf:FsI f) (hs:FsS f) (p:Lz) (hp:p.length<=1000000):Fun Tryz.prog G0 243 [.agg (fsC f),.str p] (.tup [.agg (XN (isV f p true).1),.agg (Yw (isV f p true).2.1),.sc (.int .i64 (isV f p true).2.2)]) 0:=by
 have h1:=NY f hf hs p hp;have h2:=qr (G:=G0) f (atV f p).1.ino (by have:=hs.len;omega) hf.rises;have e1:(isV f p true).1=(atV f p).1:=rfl;have e2:(isV f p true).2.1=zf (atV f p).1.ino f.xs:=rfl;by_cases h0:(atV f p).2=0
 ·have h0':=eq_true h0;cases hz:zk (atV f p).1.ino f.xs with
  | true =>
   have e3:(isV f p true).2.2=0:=by unfold isV;simp[h0,hz]
   rw[hz]at h2;refine fof (fun i=>if i=4 then Hq [(0,.pure),(1,.pure),(2,.pure),(3,.flt [1,2]),(4,.flt [2]),(5,.pure)] else if i=6 then Hq [(0,.pure),(1,.pure),(2,.flt [1]),(3,.flt []),(4,.pure)] else if i=7 then Hq [(0,.pure),(1,.pure),(2,.flt [1]),(3,.flt []),(4,.pure)] else []) Tryz.func243 ?_;dsimp only[Tryz.f243];push_cast;refine cl h1 ?_;push_cast;refine cl h2 ?_;push_cast [h0'];exact dn (by push_cast [ze,zd,CLe,zh,e1,e2,e3])
  | false =>
   have e3:(isV f p true).2.2=1:=by unfold isV;simp[h0,hz]
   rw[hz]at h2;refine fof (fun i=>if i=4 then Hq [(0,.pure),(1,.pure),(2,.pure),(3,.flt [1,2]),(4,.flt [2]),(5,.pure)] else if i=6 then Hq [(0,.pure),(1,.pure),(2,.flt [1]),(3,.flt []),(4,.pure)] else if i=7 then Hq [(0,.pure),(1,.pure),(2,.flt [1]),(3,.flt []),(4,.pure)] else []) Tryz.func243 ?_;dsimp only[Tryz.f243];push_cast;refine cl h1 ?_;push_cast;refine cl h2 ?_;push_cast [h0'];exact dn (by push_cast [ze,zd,CLe,zh,e1,e2,e3])
 ·have h0':=WG h0;have e3:(isV f p true).2.2=(atV f p).2:=by unfold isV;simp[h0]
  refine fof (fun i=>if i=4 then Hq [(0,.pure),(1,.pure),(2,.pure),(3,.flt [1,2]),(4,.flt [2]),(5,.pure)] else if i=6 then Hq [(0,.pure),(1,.pure),(2,.flt [1]),(3,.flt []),(4,.pure)] else if i=7 then Hq [(0,.pure),(1,.pure),(2,.flt [1]),(3,.flt []),(4,.pure)] else []) Tryz.func243 ?_;dsimp only[Tryz.f243];push_cast;refine cl h1 ?_;push_cast;refine cl h2 ?_;push_cast [h0',ite_self];exact dn (by push_cast [ze,zd,CLe,zh,e1,e2,e3])
end
end
section
open CA CB
open Go.RowKit
section
variable {G:zq}
theorem zkZ (k:zl):Fun Tryz.prog G 249 [.agg (Yw k)] (.sc (.int .i64 k.ino)) 0:=by
 refine fon Tryz.func249 ?_;dsimp only[Tryz.f249];push_cast;exact dn
theorem zaY (k:zl) (n:Int):Fun Tryz.prog G 276 [.agg (Yw k),.sc (.int .i64 n),.row [.clo (.func 249) [] []]] (.sc (.int .i64 (UI k.ino n))) 0:=by
 refine fon Tryz.func276 ?_;dsimp only[Tryz.f276];push_cast;refine cl (zkZ k) ?_;push_cast;refine cl (yD k.ino n) ?_;push_cast;exact dn
theorem M4 (ks:List zl) (n:Int) (hl:ks.length<=100000) (hR:qU Jq zl.ino ks) :
  Fun Tryz.prog G 180 [.sl 6 (zt ks),.sc (.int .i64 n),.clo (.func 276) [] [.row [.clo (.func 249) [] []]]] (.tup [.sc (.int .i64 (qv Jq zl.ino n ks:Nat)),.sc (.bool (JZ zl.ino n ks))]) 0:=by
 refine fon Tryz.func180 ?_;dsimp only[Tryz.f180];push_cast;refine loop (fun p:Nat×Nat=>⟨[(0,.sl 6 (zt ks)),(1,.sc (.int .i64 n)),(2,.clo (.func 276) [] [.row [.clo (.func 249) [] []]]),(8,.sc (.int .i64 (ks.length:Nat))),(9,.sc (.int .i64 p.1)),(10,.sc (.int .i64 p.2))],[],0,0⟩)
  (fun p=>p.1<=p.2/\p.2<=ks.length/\(∀ t (h:t<ks.length),t<p.1->(Jq).lt (zl.ino ks[t]) n=true)/\∀ t (h:t<ks.length),p.2<=t->(Jq).lt (zl.ino ks[t]) n=false) (fun p=>p.2-p.1) (0,ks.length) ⟨Wd _,Wb _,fun t _ h=>by (simp at h),fun t h h'=>by (dsimp only at h';omega)⟩ ?_ ?_
 ·exact wk (by push_cast [ze,zd,CLe,zh,We])
 ·rintro ⟨i,j⟩ ⟨h1,h2,h3,h4⟩;dsimp only at h1 h2 h3 h4 ⊢;by_cases h:i<j
  ·obtain ⟨m,hm⟩:∃ m,m=(i+j) / 2:=⟨_,rfl⟩;have hmi:((i:Int)+(j:Int)) / 2=(m:Int):=by omega
   have hml:m<ks.length:=by omega
   have hat:=ju ks m hml;have hlt:=(zg5 ks[m].ino n);push_cast [h,hmi,hat]
   repeat refine an ?_
   refine cl ((zaY ks[m] n)) ?_;push_cast;cases hc:(Jq).lt (zl.ino ks[m]) n with
   | true =>
    have hcv:(UI ks[m].ino n<0)=True:=eq_true (hlt.mpr hc);push_cast [hcv]
    repeat refine an ?_
    refine ⟨(m+1,j),⟨by omega,h2,fun t ht hlt2=>?_,h4⟩,by dsimp only;omega,wk⟩;dsimp only at hlt2;rcases Wp t m with q | q
    ·exact (Jq).tr ((WO.1 hR) t m ht hml q) hc
    ·have:t=m:=by omega
     subst this;exact hc
   | false =>
    have hcv:(UI ks[m].ino n<0)=False:=WG (fun e=>by have h7:(Jq).lt (zl.ino ks[m]) n=true:=hlt.mp e;rw[hc]at h7;cases h7);push_cast [hcv]
    repeat refine an ?_
    refine ⟨(i,m),⟨by omega,by omega,h3,fun t ht hge=>?_⟩,by dsimp only;omega,wk⟩;dsimp only at hge;rcases Wp m t with q | q
    ·cases h9:(Jq).lt (zl.ino ks[t]) n with
     | false=>rfl
     | true=>have:=(Jq).tr ((WO.1 hR) m t hml ht q) h9;rw[hc]at this;cases this
    ·have:t=m:=by omega
     subst this;exact hc
  ·have hij:i=j:=by omega
   subst hij;have hrk:=ZR (o:=Jq) (key:=zl.ino) n ks i h2 h3 h4;push_cast [h];refine br (fun hx=>?_) (fun hx=>?_)
   ·have hx:i<ks.length:=by simpa using hx
    have hat:=ju ks i hx;have hh:=yx n hR hrk hx;push_cast [hx,hat]
    repeat refine an ?_
    refine cl ((zaY ks[i] n)) ?_;push_cast;have hcv:decide (UI ks[i].ino n=0)=JZ zl.ino n ks:=by
     rw[hh];exact A5.2 (zfw ks[i].ino n)
    push_cast [hcv];exact dn (by push_cast [ze,zd,CLe,zh,hrk])
   ·have hx:¬i<ks.length:=by simpa using hx
    have hh:=G3 n hR (by omega);push_cast [hx];exact dn (by push_cast [ze,zd,CLe,zh,hrk,hh])
theorem zns (ks:List zl) (n:Int) (hl:ks.length<=100000) (hR:qU Jq zl.ino ks):Fun Tryz.prog G 248 [.sl 6 (zt ks),.sc (.int .i64 n),.clo (.func 249) [] []] (.tup [.sc (.int .i64 (qv Jq zl.ino n ks:Nat)),.sc (.bool (JZ zl.ino n ks))]) 0:=by
 refine fon Tryz.func248 ?_;dsimp only[Tryz.f248];push_cast;refine zcL [.sl 6 (zt ks),.sc (.int .i64 n),.clo (.func 276) [] [.row [.clo (.func 249) [] []]]] (M4 ks n hl hR) rfl ?_ ?_
 ·simp[jH,YR,C.frz,C.frzL]
 push_cast;exact dn
end
end
section
open CA CB
open Go.RowKit
section
variable {G:zq}
abbrev zpZ (w:qH) (kc pc:C):C:=.agg [.sc (.int .i64 w.fs.maxI),.sc (.int .i64 w.fs.maxB),.sc (.int .i64 w.fs.next),.sl 6 (zt w.fs.xs),kc,pc]
def zrQ (w:qH) (k:zV) (B:List C) (pn pc:Nat) (r:C) (bx':List (List C)) (m:Nat):Prop:=
 m=0/\∃ (c':Nat) (Ls:List (List C)),(Ls = []∨(∃ X,Ls = [X]/\(X.all C.stayB)=true)∨∃ X Y,Ls = [X,Y]/\(X.all C.stayB)=true/\(Y.all C.stayB)=true)/\(zJ (qP k w.kept)).length<=c'/\c'<=9223372036854775807/\r=zpZ w (.bs (4+Ls.length) 0 4 (zJ (qP k w.kept)).length c') (.bs 0 0 6 pn pc) /\
  bx'=B :: [.any,.any,.any,.any,.any,.any] :: [.any,.any,.any,.any] :: [.any,.any,.any,.any,.any,.any] :: (Ls++[qz 4 (zJ (qP k w.kept)) c'])
theorem k9 (w:qH) (k:zV) (B:List C) (pn pc:Nat) (hB:(B.all C.stayB)=true) (hl:w.kept.length<=90000) (hR:qU Jq zV.slot w.kept) (hn:MZ k.slot w.kept=false):Xe Tryz.prog G 252 [zpZ w (.sl 4 (zJ w.kept)) (.bs 0 0 6 pn pc),.agg (JR k)] [B] 0 (zrQ w k B pn pc):=by
 obtain ⟨_,_,h3,h4⟩:=UC (o:=Jq) k.slot hR;have hll:(zJ w.kept).length=w.kept.length:=We ..;have hat:=vO (G:=G) w.kept k.slot (by omega) hR;have hrl:=Vh (o:=Jq) (key:=zV.slot) k.slot w.kept;have hn':JZ zV.slot k.slot w.kept=false:=hn;rw[hn']at hat;have hw:qP k w.kept=w.kept.take (qv Jq zV.slot k.slot w.kept)++k :: w.kept.drop (qv Jq zV.slot k.slot w.kept):=(h4 hn').2.2 k rfl;have hset:zJ (qP k w.kept)=(zJ w.kept).take (qv Jq zV.slot k.slot w.kept)++JR k :: (zJ w.kept).drop (qv Jq zV.slot k.slot w.kept):=by rw[hw];simp
 have hsl:(zJ (qP k w.kept)).length=(zJ w.kept).length+1:=by rw[hset];simp;omega
 refine foX (fun i=>if i=2 then Hq [(0,.pure),(1,.pure),(2,.pure),(4,.pure),(5,.pure),(6,.pure),(3,.flt [3,4,5]),(7,.bar),(8,.pure),(9,.pure),(10,.bar)] else []) Tryz.func252 ?_;dsimp only[Tryz.f252];have hBr:∀ fp fo,C.reL fp fo B=B:=fun fp fo=>zC hB;push_cast;refine cl hat ?_;push_cast;refine zgi [] (Gc (zJ w.kept) z7 zw (by omega)) (by decide) (by simp) (by push_cast) (by push_cast) (fun r bx' m hp=>?_);obtain ⟨rfl,⟨hne,c,h1,h2,rfl,rfl⟩ | ⟨he,⟨rfl,rfl⟩ | ⟨rfl,rfl⟩⟩⟩:=hp
 ·have hbl:=JY z7 h1;have hre:∀ fp fo,C.reL fp fo (qz 4 (zJ w.kept) c)=qz 4 (zJ w.kept) c:=fun fp fo=>zC (zE zw);have hpos:=WI.2 hne;have hre2:∀ fp fo c,C.reL fp fo (qz 4 (zJ (qP k w.kept)) c)=qz 4 (zJ (qP k w.kept)) c:=fun fp fo c=>zC (zE zw);push_cast [hre,hBr];refine jU [5] [0] (UG (e:=105) (zJ w.kept) (JR k) (qv Jq zV.slot k.slot w.kept) c z7 rfl zw rfl (by omega) (by omega) h1 h2) rfl (by decide) (by decide) (by simp) (by push_cast [hBr]) (by push_cast [hre,hBr]) (fun r bx' m hp=>?_);rw[←hset]at hp;obtain ⟨rfl,c',g1,g2,⟨rfl,rfl⟩ | ⟨rfl,rfl⟩⟩:=hp
  ·push_cast [hre2,hre,hBr];refine ⟨_,_,0,⟨⟨rfl,c',[[]],.inr (.inl ⟨[],rfl,rfl⟩),g1,g2,rfl,rfl⟩,by simp⟩,[],rfl,rfl,?_,by push_cast [ze,zd,CLe,zh]⟩;push_cast [ze,zd,CLe,zh];exact ⟨zS hB,zS (zE zw)⟩
  ·have hra:∀ fp fo,C.reL fp fo (List.replicate (c*4) .any)=List.replicate (c*4) .any:=fun fp fo=>zC (by simp[OG,C.stayB]);push_cast [hre2,hre,hra,hBr];refine ⟨_,_,0,⟨⟨rfl,c',[[],List.replicate (c*4) .any],.inr (.inr ⟨[],_,rfl,rfl,by simp[OG,C.stayB]⟩),g1,g2,rfl,rfl⟩,by simp⟩,[],rfl,rfl,?_,by push_cast [ze,zd,CLe,zh]⟩;push_cast [ze,zd,CLe,zh];exact ⟨zS hB,zS (by simp[OG,C.stayB]),zS (zE zw)⟩
 ·have he:w.kept = []:=by simpa using he
  have hr0:qv Jq zV.slot k.slot w.kept=0:=by rw[he];rfl
  have hs1:qP k w.kept = [k]:=by rw[he];rfl
  push_cast [hr0];refine jU [] [0] (zbi (e:=105) (JR k) rfl rfl) rfl (by decide) (by decide) (by simp) (by push_cast) (by push_cast) (fun r bx' m hp=>?_);obtain ⟨rfl,c,g1,g2,rfl,rfl⟩:=hp;have hre:∀ fp fo,C.reL fp fo (qz 4 [JR k] c)=qz 4 [JR k] c:=fun fp fo=>zC (zE (zw (ks:=[k])));push_cast [hre,hBr];refine ⟨zpZ w (.bs 4 0 4 1 c) (.bs 0 0 6 pn pc),B :: [.any,.any,.any,.any,.any,.any] :: [.any,.any,.any,.any] :: [.any,.any,.any,.any,.any,.any] :: ([]++[qz 4 [JR k] c]),0,⟨⟨rfl,c,[],.inl rfl,by rw[hs1];exact g1,g2,by rw[hs1];rfl,by rw[hs1];rfl⟩,by simp⟩,[],rfl,rfl,?_,by push_cast [ze,zd,CLe,zh]⟩;push_cast [ze,zd,CLe,zh];exact ⟨zS hB,zS (zE (zw (ks:=[k])))⟩
 ·have he:w.kept = []:=by simpa using he
  have hr0:qv Jq zV.slot k.slot w.kept=0:=by rw[he];rfl
  have hs1:qP k w.kept = [k]:=by rw[he];rfl
  push_cast [hr0];refine jU [4] [0] (UG (e:=105) [] (JR k) 0 0 (fun r hr=>by cases hr) rfl (fun r hr=>by cases hr) rfl (by simp) (by simp) (by simp) (by simp)) rfl (by decide) (by decide) (by simp) (by push_cast) (by push_cast [qz]) (fun r bx' m hp=>?_);obtain ⟨rfl,c,g1,g2,hp⟩:=hp;have hre:∀ fp fo,C.reL fp fo (qz 4 [JR k] c)=qz 4 [JR k] c:=fun fp fo=>zC (zE (zw (ks:=[k])));rcases hp with ⟨rfl,rfl⟩ | ⟨rfl,rfl⟩
  ·push_cast [hre,hBr];refine ⟨zpZ w (.bs 4 0 4 1 c) (.bs 0 0 6 pn pc),B :: [.any,.any,.any,.any,.any,.any] :: [.any,.any,.any,.any] :: [.any,.any,.any,.any,.any,.any] :: ([]++[qz 4 [JR k] c]),0,⟨⟨rfl,c,[],.inl rfl,by rw[hs1];exact g1,g2,by rw[hs1];rfl,by rw[hs1];rfl⟩,by simp⟩,[],rfl,rfl,?_,by push_cast [ze,zd,CLe,zh]⟩;push_cast [ze,zd,CLe,zh];exact ⟨zS hB,zS (zE (zw (ks:=[k])))⟩
  ·push_cast [hre,hBr];refine ⟨zpZ w (.bs 5 0 4 1 c) (.bs 0 0 6 pn pc),B :: [.any,.any,.any,.any,.any,.any] :: [.any,.any,.any,.any] :: [.any,.any,.any,.any,.any,.any] :: ([[]]++[qz 4 [JR k] c]),0,⟨⟨rfl,c,[[]],.inr (.inl ⟨[],rfl,rfl⟩),by rw[hs1];exact g1,g2,by rw[hs1];rfl,by rw[hs1];rfl⟩,by simp⟩,[],rfl,rfl,?_,by push_cast [ze,zd,CLe,zh]⟩;push_cast [ze,zd,CLe,zh];exact ⟨zS hB,zS (zE (zw (ks:=[k])))⟩
end
end
section
open CA CB
open Go.RowKit
theorem jD {bx:List (List C)} {a b:Nat×TypeId×Nat×List (List C)×Nat} (h1:zbW [a] bx) (h2:zbW [b] bx) (hne:a.1≠b.1):zbW [a,b] bx:=⟨by simp[hne],fun x hx=>by
 rcases WJ.1 hx with rfl | hx
 ·exact h1.2 _ Wj
 ·exact h2.2 _ hx⟩
theorem zb4 (hf:FsI f) {s:zK} (hs:zM f s):(zI f s).xs.length<=f.xs.length:=by
 have hi:=zM.ino hf hs;have hl:=jW (F:=zj s.name) hf.rises hs.has;unfold zI;split
 ·show (qh _ _).length<=_;exact WN Zz (by rw[hl];exact Wb _)
 ·show (qo _ _).length<=_;rw[J1 (show z6 (ql s.dir (zj s.name) f.xs) from zZ hf.rises) ?_,hl]
  ·exact Wb _
  ·show zk (zf s.ino f.xs).ino (ql _ _ _)=true;rw[(zi hi).2.2,zQ hs.has];exact hi
theorem zlK (h:z6 xs):qU Jq zl.ino xs:=List.Pairwise.imp (fun {a b} h=>by show decide (a.ino<b.ino)=true;exact Wl h) h
theorem zlk (x:zl):∀ xs:List zl,Vb x xs=Vn Jq zl.ino x xs
 | []=>rfl
 | y :: r=>by
  unfold Vb Vn;rw[zlk x r];have e:Jq.lt x.ino y.ino=decide (x.ino<y.ino):=rfl;rw[e];by_cases h:x.ino<y.ino
  ·rw[if_pos h,if_pos (Wl h)]
  ·rw[if_neg h,if_neg (by simpa using h)]
theorem zni (hR:z6 xs) (h:∀ y∈xs,y.ino≠x.ino):qo x xs=xs.take (qv Jq zl.ino x.ino xs)++x :: xs.drop (qv Jq zl.ino x.ino xs):=by
 have h1:qh x.ino xs=xs:=BI.2 fun y hy=>by simpa using h y hy
 have h2:JZ zl.ino x.ino xs=false:=by
  unfold JZ;rw[Oh];intro y hy;simpa using h y hy
 obtain ⟨_,_,_,h4⟩:=UC (o:=Jq) x.ino (zlK hR);unfold qo;rw[h1,zlk];exact (h4 h2).2.2 x rfl
theorem zjc (w:qH) (hw:Q9 w) (hs:FsS w.fs) (hk:w.kept.length<=90000) (hp:w.pool.length<=90000) (n:Int) (s:zK) (hsp:zM w.fs s) (he:(zf s.ino w.fs.xs).es = []):Fun Tryz.prog G0 216 [Xm w,.sc (.int .i64 n),.agg (XN s)] (.tup [Xm (XL w n s).1,.sc (.int .i64 (XL w n s).2)]) 0:=by
 have hf:=hw.fs;have hlen:=hs.len;have hino:=hsp.ino hf;have h1:=MR (G:=G0) w n (by omega) hw.kept;cases hh:MZ n w.kept with
 | true =>
  have e:XL w n s=(w,13):=by unfold XL;rw[hh];rfl
  rw[hh]at h1;refine fof (fun i=>if i=10 then Hq [(0,.pure),(1,.pure),(2,.pure),(4,.pure),(5,.pure),(6,.pure),(3,.flt [3,4,5]),(7,.bar),(8,.pure),(9,.pure),(10,.bar)] else []) Tryz.func216 ?_;dsimp only[Tryz.f216];push_cast;refine cl h1 ?_;push_cast;exact dn (by push_cast [ze,zd,CLe,zh,e])
 | false =>
  rw[hh]at h1;have hg:=qr (G:=G0) w.fs s.ino (by omega) hf.rises;rw[hino]at hg;have hne:s.dir≠s.ino:=fun e=>by
   have:=hsp.there;rw[e,he]at this;cases this
  have hu:=zbl w.fs hf hs s hsp hne;have hul:=zb4 hf hsp;have hg2:=qr (G:=G0) (zI w.fs s) s.ino (by omega) (kP hf hsp he).rises;rw[VD hsp.has hino]at hg2;by_cases hz:(zf s.ino w.fs.xs).links=1
  ·rw[if_pos (show (zf s.ino w.fs.xs).links-1=0 by omega)]at hg2;simp only[decide_true,AP,W6]at hg2;have hxi:=(zi hino).2.2;have hno:∀ y∈w.pool,y.ino≠s.ino:=fun y hy e=>by
    have:=(hw.apart y hy).1;rw[e,hino]at this;cases this
   have hnk:JZ zl.ino s.ino w.pool=false:=by
    unfold JZ;rw[Oh];intro y hy;simpa using hno y hy
   have e:XL w n s=(⟨zI w.fs s,qP ⟨n,s.ino,false,[]⟩ w.kept,qo { zf s.ino w.fs.xs with links:=0,parent:=0 } w.pool⟩,0):=by unfold XL;rw[hh,if_pos hz];rfl
   have hset:=zni (x:={ zf s.ino w.fs.xs with links:=0,parent:=0 }) hw.pool (fun y hy=>by rw[show ({ zf s.ino w.fs.xs with links:=0,parent:=0 }:zl).ino=(zf s.ino w.fs.xs).ino from rfl,hxi];exact hno y hy);rw[show ({ zf s.ino w.fs.xs with links:=0,parent:=0 }:zl).ino=s.ino from hxi]at hset;have hat:=zns (G:=G0) w.pool s.ino (by omega) (zlK hw.pool);rw[hnk]at hat;have hll:(zt w.pool).length=w.pool.length:=We ..;have hrl:=Vh (o:=Jq) (key:=zl.ino) s.ino w.pool;generalize qv Jq zl.ino s.ino w.pool=r at *;generalize hpl:qo { zf s.ino w.fs.xs with links:=0,parent:=0 } w.pool=pl at *;have hpc:zt pl=(zt w.pool).take r++[.sc (.int .i64 s.ino),.sc (.int .i64 (zf s.ino w.fs.xs).kind),.sc (.int .i64 0),.str (zf s.ino w.fs.xs).data,.sc (.int .i64 0),.sl 2 (zO (zf s.ino w.fs.xs).es)] :: (zt w.pool).drop r:=by rw[hset];simp[hxi]
   have hpl1:(zt pl).length=(zt w.pool).length+1:=by rw[hpc];simp;omega
   have hre2:∀ fp fo c,C.reL fp fo (qz 6 (zt pl) c)=qz 6 (zt pl) c:=fun fp fo c=>zC (zE zu);have hre4:∀ fp fo c,C.reL fp fo (qz 4 (zJ (qP ⟨n,s.ino,false,[]⟩ w.kept)) c)=qz 4 (zJ (qP ⟨n,s.ino,false,[]⟩ w.kept)) c:=fun fp fo c=>zC (zE zw);have hkp:0<(zJ (qP ⟨n,s.ino,false,[]⟩ w.kept)).length:=by rw[We,qP,UO];omega
   refine foF (fun i=>if i=10 then Hq [(0,.pure),(1,.pure),(2,.pure),(4,.pure),(5,.pure),(6,.pure),(3,.flt [3,4,5]),(7,.bar),(8,.pure),(9,.pure),(10,.bar)] else []) Tryz.func216 ?_;dsimp only[Tryz.f216];push_cast;refine cl h1 ?_;push_cast;refine cl hg ?_;push_cast;refine cl hu ?_;push_cast;refine cl hg2 ?_;push_cast;rw[hxi];refine cl hat ?_;push_cast;refine zgi [] (QO (zt w.pool) zX zu (by omega)) (by decide) (by simp) (by push_cast) (by push_cast) (fun r0 bx' m hp=>?_);obtain ⟨rfl,⟨hne',c,c1,c2,rfl,rfl⟩ | ⟨hnil,⟨rfl,rfl⟩ | ⟨rfl,rfl⟩⟩⟩:=hp
   ·have hbl:=JY zX c1;have hre:∀ fp fo,C.reL fp fo (qz 6 (zt w.pool) c)=qz 6 (zt w.pool) c:=fun fp fo=>zC (zE zu);push_cast [hre];refine jU [7] [0] (UP (e:=64) (zt w.pool) [.sc (.int .i64 s.ino),.sc (.int .i64 (zf s.ino w.fs.xs).kind),.sc (.int .i64 0),.str (zf s.ino w.fs.xs).data,.sc (.int .i64 0),.sl 2 (zO (zf s.ino w.fs.xs).es)] r c zX rfl zu rfl (by omega) (by omega) c1 c2) rfl (by decide) (by decide) (by simp) (by push_cast) (by push_cast [hre]) (fun r1 bx' m hp=>?_);rw[←hpc]at hp;obtain ⟨rfl,c',g1,g2,⟨rfl,rfl⟩ | ⟨rfl,rfl⟩⟩:=hp
    ·push_cast [hre2,hre];refine jU [7] [] (k9 (G:=G0) { w with fs:=zI w.fs s } ⟨n,s.ino,false,[]⟩ (qz 6 (zt pl) c') (zt pl).length c' (zE zu) hk hw.kept hh) rfl (by decide) (by decide) (by simp) (by push_cast) (by push_cast [hre2]) (fun r2 bx' m hp=>?_);obtain ⟨rfl,c3,Ls,hLs,k1,k2,rfl,rfl⟩:=hp;rcases hLs with rfl | ⟨X,rfl,hX⟩ | ⟨X,Y,rfl,hX,hY⟩
     ·push_cast [hre2,hre4];exact ⟨[(11,105,4,zJ (qP ⟨n,s.ino,false,[]⟩ w.kept),c3),(7,64,6,zt pl,c')],[],jD (zA rfl (WH hkp k1) k1 k2 z7 zw) (zA rfl (by omega) g1 g2 zX zu) (show (11:Nat)≠7 by decide),rfl,rfl,by push_cast [ze,zd,CLe,zh,e,AE,Ol]⟩
     ·have hXr:∀ fp fo,C.reL fp fo X=X:=fun fp fo=>zC hX;push_cast [hre2,hre4,hXr];exact ⟨[(12,105,4,zJ (qP ⟨n,s.ino,false,[]⟩ w.kept),c3),(7,64,6,zt pl,c')],[],jD (zA rfl (WH hkp k1) k1 k2 z7 zw) (zA rfl (by omega) g1 g2 zX zu) (show (12:Nat)≠7 by decide),rfl,rfl,by push_cast [ze,zd,CLe,zh,e,AE,Ol]⟩
     ·have hXr:∀ fp fo,C.reL fp fo X=X:=fun fp fo=>zC hX;have hYr:∀ fp fo,C.reL fp fo Y=Y:=fun fp fo=>zC hY;push_cast [hre2,hre4,hXr,hYr];exact ⟨[(13,105,4,zJ (qP ⟨n,s.ino,false,[]⟩ w.kept),c3),(7,64,6,zt pl,c')],[],jD (zA rfl (WH hkp k1) k1 k2 z7 zw) (zA rfl (by omega) g1 g2 zX zu) (show (13:Nat)≠7 by decide),rfl,rfl,by push_cast [ze,zd,CLe,zh,e,AE,Ol]⟩
    ·have hra:∀ fp fo,C.reL fp fo (List.replicate (c*6) .any)=List.replicate (c*6) .any:=fun fp fo=>zC (by simp[OG,C.stayB]);push_cast [hre2,hre,hra];refine jU [8] [] (k9 (G:=G0) { w with fs:=zI w.fs s } ⟨n,s.ino,false,[]⟩ (qz 6 (zt pl) c') (zt pl).length c' (zE zu) hk hw.kept hh) rfl (by decide) (by decide) (by simp) (by push_cast) (by push_cast [hre2,hra]) (fun r2 bx' m hp=>?_);obtain ⟨rfl,c3,Ls,hLs,k1,k2,rfl,rfl⟩:=hp;rcases hLs with rfl | ⟨X,rfl,hX⟩ | ⟨X,Y,rfl,hX,hY⟩
     ·push_cast [hre2,hre4,hra];exact ⟨[(12,105,4,zJ (qP ⟨n,s.ino,false,[]⟩ w.kept),c3),(8,64,6,zt pl,c')],[],jD (zA rfl (WH hkp k1) k1 k2 z7 zw) (zA rfl (by omega) g1 g2 zX zu) (show (12:Nat)≠8 by decide),rfl,rfl,by push_cast [ze,zd,CLe,zh,e,AE,Ol]⟩
     ·have hXr:∀ fp fo,C.reL fp fo X=X:=fun fp fo=>zC hX;push_cast [hre2,hre4,hra,hXr];exact ⟨[(13,105,4,zJ (qP ⟨n,s.ino,false,[]⟩ w.kept),c3),(8,64,6,zt pl,c')],[],jD (zA rfl (WH hkp k1) k1 k2 z7 zw) (zA rfl (by omega) g1 g2 zX zu) (show (13:Nat)≠8 by decide),rfl,rfl,by push_cast [ze,zd,CLe,zh,e,AE,Ol]⟩
     ·have hXr:∀ fp fo,C.reL fp fo X=X:=fun fp fo=>zC hX;have hYr:∀ fp fo,C.reL fp fo Y=Y:=fun fp fo=>zC hY;push_cast [hre2,hre4,hra,hXr,hYr];exact ⟨[(14,105,4,zJ (qP ⟨n,s.ino,false,[]⟩ w.kept),c3),(8,64,6,zt pl,c')],[],jD (zA rfl (WH hkp k1) k1 k2 z7 zw) (zA rfl (by omega) g1 g2 zX zu) (show (14:Nat)≠8 by decide),rfl,rfl,by push_cast [ze,zd,CLe,zh,e,AE,Ol]⟩
   ·have hpe:w.pool = []:=by simpa using hnil
    have hr0:r=0:=by rw[hpe]at hrl;exact Nat.le_zero.1 hrl
    subst hr0;have hq:zt pl = [[.sc (.int .i64 s.ino),.sc (.int .i64 (zf s.ino w.fs.xs).kind),.sc (.int .i64 0),.str (zf s.ino w.fs.xs).data,.sc (.int .i64 0),.sl 2 (zO (zf s.ino w.fs.xs).es)]]:=by rw[hpc,hpe];rfl
    push_cast;refine jU [] [0] (zaK (e:=64) [.sc (.int .i64 s.ino),.sc (.int .i64 (zf s.ino w.fs.xs).kind),.sc (.int .i64 0),.str (zf s.ino w.fs.xs).data,.sc (.int .i64 0),.sl 2 (zO (zf s.ino w.fs.xs).es)] rfl rfl) rfl (by decide) (by decide) (by simp) (by push_cast) (by push_cast) (fun r1 bx' m hp=>?_);have hp:m=0/\∃ c,(zt pl).length<=c/\c<=9223372036854775807/\r1 = .bs 0 0 6 (zt pl).length c/\bx' = [qz 6 (zt pl) c]:=by rw[hq];exact hp
    obtain ⟨rfl,c',g1,g2,rfl,rfl⟩:=hp;push_cast [hre2];refine jU [6] [] (k9 (G:=G0) { w with fs:=zI w.fs s } ⟨n,s.ino,false,[]⟩ (qz 6 (zt pl) c') (zt pl).length c' (zE zu) hk hw.kept hh) rfl (by decide) (by decide) (by simp) (by push_cast) (by push_cast [hre2]) (fun r2 bx' m hp=>?_);obtain ⟨rfl,c3,Ls,hLs,k1,k2,rfl,rfl⟩:=hp;rcases hLs with rfl | ⟨X,rfl,hX⟩ | ⟨X,Y,rfl,hX,hY⟩
    ·push_cast [hre2,hre4];exact ⟨[(10,105,4,zJ (qP ⟨n,s.ino,false,[]⟩ w.kept),c3),(6,64,6,zt pl,c')],[],jD (zA rfl (WH hkp k1) k1 k2 z7 zw) (zA rfl (by omega) g1 g2 zX zu) (show (10:Nat)≠6 by decide),rfl,rfl,by push_cast [ze,zd,CLe,zh,e,AE,Ol]⟩
    ·have hXr:∀ fp fo,C.reL fp fo X=X:=fun fp fo=>zC hX;push_cast [hre2,hre4,hXr];exact ⟨[(11,105,4,zJ (qP ⟨n,s.ino,false,[]⟩ w.kept),c3),(6,64,6,zt pl,c')],[],jD (zA rfl (WH hkp k1) k1 k2 z7 zw) (zA rfl (by omega) g1 g2 zX zu) (show (11:Nat)≠6 by decide),rfl,rfl,by push_cast [ze,zd,CLe,zh,e,AE,Ol]⟩
    ·have hXr:∀ fp fo,C.reL fp fo X=X:=fun fp fo=>zC hX;have hYr:∀ fp fo,C.reL fp fo Y=Y:=fun fp fo=>zC hY;push_cast [hre2,hre4,hXr,hYr];exact ⟨[(12,105,4,zJ (qP ⟨n,s.ino,false,[]⟩ w.kept),c3),(6,64,6,zt pl,c')],[],jD (zA rfl (WH hkp k1) k1 k2 z7 zw) (zA rfl (by omega) g1 g2 zX zu) (show (12:Nat)≠6 by decide),rfl,rfl,by push_cast [ze,zd,CLe,zh,e,AE,Ol]⟩
   ·have hpe:w.pool = []:=by simpa using hnil
    have hr0:r=0:=by rw[hpe]at hrl;exact Nat.le_zero.1 hrl
    subst hr0;have hq:zt pl = [[.sc (.int .i64 s.ino),.sc (.int .i64 (zf s.ino w.fs.xs).kind),.sc (.int .i64 0),.str (zf s.ino w.fs.xs).data,.sc (.int .i64 0),.sl 2 (zO (zf s.ino w.fs.xs).es)]]:=by rw[hpc,hpe];rfl
    push_cast;refine jU [6] [0] (UP (e:=64) [] [.sc (.int .i64 s.ino),.sc (.int .i64 (zf s.ino w.fs.xs).kind),.sc (.int .i64 0),.str (zf s.ino w.fs.xs).data,.sc (.int .i64 0),.sl 2 (zO (zf s.ino w.fs.xs).es)] 0 0 (fun r hr=>by cases hr) rfl (fun r hr=>by cases hr) rfl (by simp) (by simp) (by simp) (by simp)) rfl (by decide) (by decide) (by simp) (by push_cast) (by push_cast [qz]) (fun r1 bx' m hp=>?_);have hp:zrJ 6 (0*6) (zt pl) r1 bx' m:=by rw[hq];exact hp
    obtain ⟨rfl,c',g1,g2,⟨rfl,rfl⟩ | ⟨rfl,rfl⟩⟩:=hp
    ·push_cast [hre2];refine jU [6] [] (k9 (G:=G0) { w with fs:=zI w.fs s } ⟨n,s.ino,false,[]⟩ (qz 6 (zt pl) c') (zt pl).length c' (zE zu) hk hw.kept hh) rfl (by decide) (by decide) (by simp) (by push_cast) (by push_cast [hre2]) (fun r2 bx' m hp=>?_);obtain ⟨rfl,c3,Ls,hLs,k1,k2,rfl,rfl⟩:=hp;rcases hLs with rfl | ⟨X,rfl,hX⟩ | ⟨X,Y,rfl,hX,hY⟩
     ·push_cast [hre2,hre4];exact ⟨[(10,105,4,zJ (qP ⟨n,s.ino,false,[]⟩ w.kept),c3),(6,64,6,zt pl,c')],[],jD (zA rfl (WH hkp k1) k1 k2 z7 zw) (zA rfl (by omega) g1 g2 zX zu) (show (10:Nat)≠6 by decide),rfl,rfl,by push_cast [ze,zd,CLe,zh,e,AE,Ol]⟩
     ·have hXr:∀ fp fo,C.reL fp fo X=X:=fun fp fo=>zC hX;push_cast [hre2,hre4,hXr];exact ⟨[(11,105,4,zJ (qP ⟨n,s.ino,false,[]⟩ w.kept),c3),(6,64,6,zt pl,c')],[],jD (zA rfl (WH hkp k1) k1 k2 z7 zw) (zA rfl (by omega) g1 g2 zX zu) (show (11:Nat)≠6 by decide),rfl,rfl,by push_cast [ze,zd,CLe,zh,e,AE,Ol]⟩
     ·have hXr:∀ fp fo,C.reL fp fo X=X:=fun fp fo=>zC hX;have hYr:∀ fp fo,C.reL fp fo Y=Y:=fun fp fo=>zC hY;push_cast [hre2,hre4,hXr,hYr];exact ⟨[(12,105,4,zJ (qP ⟨n,s.ino,false,[]⟩ w.kept),c3),(6,64,6,zt pl,c')],[],jD (zA rfl (WH hkp k1) k1 k2 z7 zw) (zA rfl (by omega) g1 g2 zX zu) (show (12:Nat)≠6 by decide),rfl,rfl,by push_cast [ze,zd,CLe,zh,e,AE,Ol]⟩
    ·push_cast [hre2];refine jU [7] [] (k9 (G:=G0) { w with fs:=zI w.fs s } ⟨n,s.ino,false,[]⟩ (qz 6 (zt pl) c') (zt pl).length c' (zE zu) hk hw.kept hh) rfl (by decide) (by decide) (by simp) (by push_cast) (by push_cast [hre2]) (fun r2 bx' m hp=>?_);obtain ⟨rfl,c3,Ls,hLs,k1,k2,rfl,rfl⟩:=hp;rcases hLs with rfl | ⟨X,rfl,hX⟩ | ⟨X,Y,rfl,hX,hY⟩
     ·push_cast [hre2,hre4];exact ⟨[(11,105,4,zJ (qP ⟨n,s.ino,false,[]⟩ w.kept),c3),(7,64,6,zt pl,c')],[],jD (zA rfl (WH hkp k1) k1 k2 z7 zw) (zA rfl (by omega) g1 g2 zX zu) (show (11:Nat)≠7 by decide),rfl,rfl,by push_cast [ze,zd,CLe,zh,e,AE,Ol]⟩
     ·have hXr:∀ fp fo,C.reL fp fo X=X:=fun fp fo=>zC hX;push_cast [hre2,hre4,hXr];exact ⟨[(12,105,4,zJ (qP ⟨n,s.ino,false,[]⟩ w.kept),c3),(7,64,6,zt pl,c')],[],jD (zA rfl (WH hkp k1) k1 k2 z7 zw) (zA rfl (by omega) g1 g2 zX zu) (show (12:Nat)≠7 by decide),rfl,rfl,by push_cast [ze,zd,CLe,zh,e,AE,Ol]⟩
     ·have hXr:∀ fp fo,C.reL fp fo X=X:=fun fp fo=>zC hX;have hYr:∀ fp fo,C.reL fp fo Y=Y:=fun fp fo=>zC hY;push_cast [hre2,hre4,hXr,hYr];exact ⟨[(13,105,4,zJ (qP ⟨n,s.ino,false,[]⟩ w.kept),c3),(7,64,6,zt pl,c')],[],jD (zA rfl (WH hkp k1) k1 k2 z7 zw) (zA rfl (by omega) g1 g2 zX zu) (show (13:Nat)≠7 by decide),rfl,rfl,by push_cast [ze,zd,CLe,zh,e,AE,Ol]⟩
  ·have hz2:¬(zf s.ino w.fs.xs).links-1=0:=by omega
   rw[if_neg hz2,hino]at hg2;have e:XL w n s=({ w with fs:=zI w.fs s,kept:=qP ⟨n,s.ino,false,[]⟩ w.kept },0):=by unfold XL;rw[hh,if_neg hz];rfl
   have hwi:=xG (G:=G0) { w with fs:=zI w.fs s } ⟨n,s.ino,false,[]⟩ hk hw.kept hh;refine fof (fun i=>if i=10 then Hq [(0,.pure),(1,.pure),(2,.pure),(4,.pure),(5,.pure),(6,.pure),(3,.flt [3,4,5]),(7,.bar),(8,.pure),(9,.pure),(10,.bar)] else []) Tryz.func216 ?_;dsimp only[Tryz.f216];push_cast;refine cl h1 ?_;push_cast;refine cl hg ?_;push_cast;refine cl hu ?_;push_cast;refine cl hg2 ?_;push_cast;refine cl hwi ?_;push_cast;exact dn (by push_cast [ze,zd,CLe,zh,e])
end
section
open CA CB
open Go.RowKit
theorem Mq (w:qH) (hf:FsI w.fs) (hs:FsS w.fs) (hk:w.kept.length<=90000) (hR:qU Jq zV.slot w.kept) (n i:Int):Fun Tryz.prog G0 241 [Xm w,.sc (.int .i64 n),.sc (.int .i64 i)] (.tup [Xm (qF w n i).1,.sc (.int .i64 (qF w n i).2)]) 0:=by
 have hlen:=hs.len;have h1:=MR (G:=G0) w n (by omega) hR;have hg:=qr (G:=G0) w.fs i (by omega) hf.rises;cases hh:MZ n w.kept with
 | true =>
  have e:qF w n i=(w,13):=by unfold qF;rw[hh];rfl
  rw[hh]at h1;refine fon Tryz.func241 ?_;dsimp only[Tryz.f241];push_cast;refine cl h1 ?_;push_cast;exact dn (by push_cast [ze,zd,CLe,zh,e])
 | false =>
  have e:qF w n i=({ w with kept:=qP ⟨n,i,true,(zf i w.fs.xs).data⟩ w.kept },0):=by unfold qF;rw[hh];rfl
  have hw:=xG (G:=G0) w ⟨n,i,true,(zf i w.fs.xs).data⟩ hk hR hh;rw[hh]at h1;refine fon Tryz.func241 ?_;dsimp only[Tryz.f241];push_cast;refine cl h1 ?_;push_cast;refine cl hg ?_;push_cast;refine cl hw ?_;push_cast;exact dn (by push_cast [ze,zd,CLe,zh,e])
end
section
open CA CB
open Go.RowKit
theorem zqd (hf:FsI f) (p:Lz):(atV f p).1.ino≠0->zk (atV f p).1.ino f.xs=true:=by
 unfold atV;split
 ·exact ub hf (zn p) ⟨0,[],1⟩ fun _=>hf.root
 ·intro h;exact absurd rfl h
theorem zho (hf:FsI f) (p:Lz):zk (atV f p).1.ino f.xs = !decide ((atV f p).1.ino=0):=by
 by_cases h:(atV f p).1.ino=0
 ·rw[Wl h];cases hh:zk (atV f p).1.ino f.xs with
  | false=>rfl
  | true=>exact absurd h (Qj hf hh)
 ·rw[zqd hf p h,Wi h];rfl
theorem GJ (f:FsV) (hf:FsI f) (hs:FsS f) (p:Lz) (hp:p.length<=1000000):Fun Tryz.prog G0 238 [.agg (fsC f),.str p] (.tup [.agg (XN (isV f p false).1),.sc (.int .i64 (isV f p false).2.2)]) 0:=by
 have h1:=NY f hf hs p hp;have hi:=zho hf p;have e1:(isV f p false).1=(atV f p).1:=rfl;by_cases h0:(atV f p).2=0
 ·have h0':=eq_true h0;by_cases hz:(atV f p).1.ino=0
  ·have hz':=eq_true hz;rw[Wl hz]at hi;have e3:(isV f p false).2.2=0:=by unfold isV;simp[h0,hi]
   refine fon Tryz.func238 ?_;dsimp only[Tryz.f238];push_cast;refine cl h1 ?_;push_cast [h0',hz'];exact dn (by push_cast [ze,zd,CLe,zh,e1,e3])
  ·have hz':=WG hz;rw[Wi hz]at hi;have e3:(isV f p false).2.2=2:=by unfold isV;simp[h0,hi]
   refine fon Tryz.func238 ?_;dsimp only[Tryz.f238];push_cast;refine cl h1 ?_;push_cast [h0',hz'];exact dn (by push_cast [ze,zd,CLe,zh,e1,e3])
 ·have h0':=WG h0;have e3:(isV f p false).2.2=(atV f p).2:=by unfold isV;simp[h0]
  refine fon Tryz.func238 ?_;dsimp only[Tryz.f238];push_cast;refine cl h1 ?_;push_cast [h0'];exact dn (by push_cast [ze,zd,CLe,zh,e1,e3])
theorem zbw (hf:FsI f) {p:Lz} (h:(isV f p true).2.2=0):(isV f p true).2.1.kind=1∨(isV f p true).2.1.kind=2∨(isV f p true).2.1.kind=3:=by
 have hz:=QF h;have hh:zk (atV f p).1.ino f.xs=true:=by
  unfold isV at h;simp only[hz]at h;cases hq:zk (atV f p).1.ino f.xs with
  | true=>rfl
  | false=>rw[hq]at h;simp at h
 exact hf.kind _ (zi hh).2.1
theorem NS (f:FsV) (hf:FsI f) (hs:FsS f) (p:Lz) (hp:p.length<=1000000):Fun Tryz.prog G0 240 [.agg (fsC f),.str p] (.tup [.agg (Yw (qd f p).1),.sc (.int .i64 (qd f p).2)]) 0:=by
 have h1:=Z7 f hf hs p hp;have e1:(qd f p).1=(isV f p true).2.1:=rfl;have e2:(qd f p).2=if (isV f p true).2.2≠0 then (isV f p true).2.2 else if (isV f p true).2.1.kind=2 then 4 else if (isV f p true).2.1.kind=3 then 9 else 0:=rfl;have hkt:=fun h=>zbw hf (p:=p) h;generalize isV f p true=r at h1 e1 e2 hkt;obtain ⟨s,x,w⟩:=r;simp only at h1 e1 e2 hkt;by_cases h0:w=0
 ·have h0':=eq_true h0;by_cases k2:x.kind=2
  ·have k2':=eq_true k2;have e3:(qd f p).2=4:=by rw[e2];simp[h0,k2]
   refine fon Tryz.func240 ?_;dsimp only[Tryz.f240];push_cast;refine cl h1 ?_;push_cast [h0',k2'];exact dn (by push_cast [ze,zd,CLe,zh,e1,e3])
  ·have k2':=WG k2;by_cases k1:x.kind=1
   ·have k1':=eq_true k1;have e3:(qd f p).2=0:=by rw[e2];simp[h0,k1]
    refine fon Tryz.func240 ?_;dsimp only[Tryz.f240];push_cast;refine cl h1 ?_;push_cast [h0',k2',k1'];exact dn (by push_cast [ze,zd,CLe,zh,e1,e3])
   ·have k1':=WG k1;have k3:x.kind=3:=by rcases hkt h0 with h | h | h;exact absurd h k1;exact absurd h k2;exact h
    have e3:(qd f p).2=9:=by rw[e2];simp[h0,k3]
    refine fon Tryz.func240 ?_;dsimp only[Tryz.f240];push_cast;refine cl h1 ?_;push_cast [h0',k2',k1'];exact dn (by push_cast [ze,zd,CLe,zh,e1,e3])
 ·have h0':=WG h0;have e3:(qd f p).2=w:=by rw[e2];simp[h0]
  refine fon Tryz.func240 ?_;dsimp only[Tryz.f240];push_cast;refine cl h1 ?_;push_cast [h0'];exact dn (by push_cast [ze,zd,CLe,zh,e1,e3])
structure zaT (w:qH):Prop where
 fs:FsS w.fs
 next:zrn w.fs
 kept:w.kept.length<=10000
 pool:w.pool.length<=10000
theorem Nc (w:qH) (hw:Q9 w) (hs:zaT w) (p:Lz) (hp:p.length<=1000000) (hpl:zT p=true) (k:Int) (t:Lz) (ht:t.length<=10000):Fun Tryz.prog G0 207 [Xm w,.str p,.sc (.int .i64 k),.str t] (.tup [Xm (JK w p k t).1,.sc (.int .i64 (JK w p k t).2)]) 0:=by
 have h1:=GJ w.fs hw.fs hs.fs p hp;by_cases h0:(isV w.fs p false).2.2=0
 ·have h0':=eq_true h0;have hfr:=Ju hw.fs hpl h0;have hln:=zdV hw.fs hpl (QF h0);have hln:(isV w.fs p false).1.name.length<=300:=hln;have hc:=zcE w.fs hw.fs hs.fs hs.next (isV w.fs p false).1 hfr (by omega) k t (by omega);have e:JK w p k t=({ w with fs:=(kw w.fs (isV w.fs p false).1 k t).1 },(kw w.fs (isV w.fs p false).1 k t).2):=by unfold JK;rw[if_neg (by simp[h0])]
  refine fon Tryz.func207 ?_;dsimp only[Tryz.f207];push_cast;refine cl h1 ?_;push_cast [h0'];refine cl hc ?_;push_cast;exact dn (by push_cast [ze,zd,CLe,zh,e])
 ·have h0':=WG h0;have e:JK w p k t=(w,(isV w.fs p false).2.2):=by unfold JK;rw[if_pos h0]
  refine fon Tryz.func207 ?_;dsimp only[Tryz.f207];push_cast;refine cl h1 ?_;push_cast [h0'];exact dn (by push_cast [ze,zd,CLe,zh,e])
end
section
open CA CB
open Go.RowKit
theorem MY (hw:Q9 w) (hs:zaT w) {p:Lz} (hp:zT p=true) (h:(qd w.fs p).2=0):(qd w.fs p).1.data.length<=10000:=by
 obtain ⟨h1,_,h3⟩:=Zn hw.fs hp h;rw[h3];exact (hs.fs.node _ (zi h1).2.1).2.1
theorem zcA (w:qH) (hw:Q9 w) (hs:zaT w) (o:OpV) (ho:Vs o) (pa:zT o.a=true) (pb:zT o.b=true):Fun Tryz.prog G0 208 [Xm w,.agg (opL o)] (.tup [Xm (Jk w o).1,.sc (.int .i64 (Jk w o).2)]) 0:=by
 have h1:=NS w.fs hw.fs hs.fs o.a ho.1;unfold opL;by_cases h0:(qd w.fs o.a).2=0
 ·have h0':=eq_true h0;have hm:=Nc w hw hs o.b ho.2.1 pb 1 (qd w.fs o.a).1.data (MY hw hs pa h0);have e:Jk w o=JK w o.b 1 (qd w.fs o.a).1.data:=by unfold Jk;rw[if_neg (by simp[h0])]
  refine fon Tryz.func208 ?_;dsimp only[Tryz.f208];push_cast;refine cl h1 ?_;push_cast [h0'];refine cl hm ?_;push_cast;exact dn (by push_cast [ze,zd,CLe,zh,e])
 ·have h0':=WG h0;have e:Jk w o=(w,(qd w.fs o.a).2):=by unfold Jk;rw[if_pos h0]
  refine fon Tryz.func208 ?_;dsimp only[Tryz.f208];push_cast;refine cl h1 ?_;push_cast [h0'];exact dn (by push_cast [ze,zd,CLe,zh,e])
theorem zcm (w:qH) (hw:Q9 w) (hs:zaT w) (o:OpV) (ho:Vs o) (pa:zT o.a=true) (pb:zT o.b=true):Fun Tryz.prog G0 211 [Xm w,.agg (opL o)] (.tup [Xm (jZ w o).1,.sc (.int .i64 (jZ w o).2)]) 0:=by
 have h1:=Z7 w.fs hw.fs hs.fs o.a ho.1;have h2:=GJ w.fs hw.fs hs.fs o.b ho.2.1;unfold opL;by_cases h0:(isV w.fs o.a true).2.2=0
 ·have h0':=eq_true h0;obtain ⟨t1,t2⟩:=jB hw.fs pa h0;have hi:=zM.ino hw.fs t1;have hino:(isV w.fs o.a true).2.1.ino=(isV w.fs o.a true).1.ino:=by rw[t2,(zi hi).2.2]
  by_cases hk:(isV w.fs o.a true).2.1.kind=2
  ·have hk':=eq_true hk;have e:jZ w o=(w,11):=by unfold jZ;simp[h0,hk]
   refine fon Tryz.func211 ?_;dsimp only[Tryz.f211];push_cast;refine cl h1 ?_;push_cast [h0',hk'];exact dn (by push_cast [ze,zd,CLe,zh,e])
  ·have hk':=WG hk;by_cases hb:(isV w.fs o.b false).2.2=0
   ·have hb':=eq_true hb;have hfree:=Ju hw.fs pb hb;have hne:(isV w.fs o.b false).1.dir≠(isV w.fs o.a true).2.1.ino:=fun e=>by
     rw[hino]at e;have:=hfree.kind;rw[e,←t2]at this;exact hk this
    have hn:=zkq w.fs hw.fs hs.fs (isV w.fs o.b false).1 hfree (isV w.fs o.a true).2.1.ino (by rw[hino];exact hi) hne;have e:jZ w o=({ w with fs:=Q4 w.fs (isV w.fs o.b false).1 (isV w.fs o.a true).2.1.ino },0):=by unfold jZ;simp[h0,hk,hb]
    refine fon Tryz.func211 ?_;dsimp only[Tryz.f211];push_cast;refine cl h1 ?_;push_cast [h0',hk'];refine cl h2 ?_;push_cast [hb'];refine cl hn ?_;push_cast;exact dn (by push_cast [ze,zd,CLe,zh,e,hb])
   ·have hb':=WG hb;have e:jZ w o=(w,(isV w.fs o.b false).2.2):=by unfold jZ;simp[h0,hk,hb]
    refine fon Tryz.func211 ?_;dsimp only[Tryz.f211];push_cast;refine cl h1 ?_;push_cast [h0',hk'];refine cl h2 ?_;push_cast [hb'];exact dn (by push_cast [ze,zd,CLe,zh,e])
 ·have h0':=WG h0;have e:jZ w o=(w,(isV w.fs o.a true).2.2):=by unfold jZ;simp[h0]
  refine fon Tryz.func211 ?_;dsimp only[Tryz.f211];push_cast;refine cl h1 ?_;push_cast [h0'];exact dn (by push_cast [ze,zd,CLe,zh,e])
theorem zgD (hf:FsI f) {p:Lz} (h:(isV f p false).2.2=0):(isV f p false).1.ino=0:=by
 have hz:=QF h;have hi:=zho hf p;unfold isV at h ⊢;simp only[hz]at h ⊢;by_cases h0:(atV f p).1.ino=0
 ·exact h0
 ·rw[Wi h0]at hi;rw[hi]at h;simp at h
theorem zfq (w:qH) (hw:Q9 w) (hs:zaT w) (o:OpV) (ho:Vs o) (pa:zT o.a=true) (pb:zT o.b=true):Fun Tryz.prog G0 212 [Xm w,.agg (opL o)] (.tup [Xm (YO w o).1,.sc (.int .i64 (YO w o).2)]) 0:=by
 have h1:=Z7 w.fs hw.fs hs.fs o.a ho.1;have h2:=GJ w.fs hw.fs hs.fs o.b ho.2.1;unfold opL;by_cases h0:(isV w.fs o.a true).2.2=0
 ·have h0':=eq_true h0;obtain ⟨t1,t2⟩:=jB hw.fs pa h0;by_cases hb:(isV w.fs o.b false).2.2=0
  ·have hb':=eq_true hb;have hfree:=Ju hw.fs pb hb;have hn:=ziU w.fs hw.fs hs.fs (isV w.fs o.a true).1 (isV w.fs o.b false).1 t1 hfree (zgD hw.fs hb);have e:YO w o=({ w with fs:=JG w.fs (isV w.fs o.a true).1 (isV w.fs o.b false).1 },0):=by unfold YO;simp[h0,hb]
   refine fon Tryz.func212 ?_;dsimp only[Tryz.f212];push_cast;refine cl h1 ?_;push_cast [h0'];refine cl h2 ?_;push_cast [hb'];refine cl hn ?_;push_cast;exact dn (by push_cast [ze,zd,CLe,zh,e,hb])
  ·have hb':=WG hb;have e:YO w o=(w,(isV w.fs o.b false).2.2):=by unfold YO;simp[h0,hb]
   refine fon Tryz.func212 ?_;dsimp only[Tryz.f212];push_cast;refine cl h1 ?_;push_cast [h0'];refine cl h2 ?_;push_cast [hb'];exact dn (by push_cast [ze,zd,CLe,zh,e])
 ·have h0':=WG h0;have e:YO w o=(w,(isV w.fs o.a true).2.2):=by unfold YO;simp[h0]
  refine fon Tryz.func212 ?_;dsimp only[Tryz.f212];push_cast;refine cl h1 ?_;push_cast [h0'];exact dn (by push_cast [ze,zd,CLe,zh,e])
end
section
open CA CB
open Go.RowKit
theorem uB (w:qH) (hw:Q9 w) (hs:zaT w) (o:OpV) (ho:Vs o) (pa:zT o.a=true) (pb:zT o.b=true):Fun Tryz.prog G0 209 [Xm w,.agg (opL o)] (.tup [Xm (qL w o).1,.sc (.int .i64 (qL w o).2)]) 0:=by
 have h1:=NS w.fs hw.fs hs.fs o.a ho.1;have h2:=NS w.fs hw.fs hs.fs o.b ho.2.1;have h3:=Mq w hw.fs hs.fs (by have:=hs.kept;omega) hw.kept o.slot (qd w.fs o.b).1.ino;unfold opL;by_cases a0:(qd w.fs o.a).2=0
 rotate_left
 ·have a0':=WG a0;have e:qL w o=(w,(qd w.fs o.a).2):=by unfold qL;rw[if_pos a0]
  refine fon Tryz.func209 ?_;dsimp only[Tryz.f209];push_cast;refine cl h1 ?_;push_cast [a0'];exact dn (by push_cast [ze,zd,CLe,zh,e])
 have a0':=eq_true a0;have hfa:=MY hw hs pa a0;by_cases b0:(qd w.fs o.b).2=0
 rotate_left
 ·have b0':=WG b0;have e:qL w o=(w,(qd w.fs o.b).2):=by unfold qL;rw[if_neg (by simp[a0]),if_pos b0]
  refine fon Tryz.func209 ?_;dsimp only[Tryz.f209];push_cast;refine cl h1 ?_;push_cast [a0'];refine cl h2 ?_;push_cast [b0'];exact dn (by push_cast [ze,zd,CLe,zh,e])
 have b0':=eq_true b0;obtain ⟨fb1,fb2,fb3⟩:=Zn hw.fs pb b0;by_cases i0:(qd w.fs o.a).1.ino=(qd w.fs o.b).1.ino
 ·have i0':=eq_true i0;have e:qL w o=(w,9):=by unfold qL;rw[if_neg (by simp[a0]),if_neg (by simp[b0]),if_pos i0]
  refine fon Tryz.func209 ?_;dsimp only[Tryz.f209];push_cast;refine cl h1 ?_;push_cast [a0'];refine cl h2 ?_;push_cast [b0',i0'];exact dn (by push_cast [ze,zd,CLe,zh,e])
 have i0':=WG i0;cases hh:MZ o.slot w.kept with
 | true =>
  have ek:qF w o.slot (qd w.fs o.b).1.ino=(w,13):=by unfold qF;rw[hh];rfl
  have e:qL w o=(w,13):=by unfold qL;rw[if_neg (by simp[a0]),if_neg (by simp[b0]),if_neg i0,ek];rfl
  rw[ek]at h3;refine fon Tryz.func209 ?_;dsimp only[Tryz.f209];push_cast;refine cl h1 ?_;push_cast [a0'];refine cl h2 ?_;push_cast [b0',i0'];refine cl h3 ?_;push_cast;exact dn (by push_cast [ze,zd,CLe,zh,e])
 | false =>
  have ek:qF w o.slot (qd w.fs o.b).1.ino=({ w with kept:=qP ⟨o.slot,(qd w.fs o.b).1.ino,true,(zf (qd w.fs o.b).1.ino w.fs.xs).data⟩ w.kept },0):=by unfold qF;rw[hh];rfl
  have h4:=yG w.fs hw.fs hs.fs (qd w.fs o.b).1.ino fb1 (qd w.fs o.a).1.data hfa;rw[ek]at h3;by_cases d0:(Xx w.fs (qd w.fs o.b).1.ino (qd w.fs o.a).1.data).2=0
  ·have d0':=eq_true d0;have e:qL w o=(⟨(Xx w.fs (qd w.fs o.b).1.ino (qd w.fs o.a).1.data).1,qP ⟨o.slot,(qd w.fs o.b).1.ino,true,(zf (qd w.fs o.b).1.ino w.fs.xs).data⟩ w.kept,w.pool⟩,0):=by unfold qL;rw[if_neg (by simp[a0]),if_neg (by simp[b0]),if_neg i0,ek,if_neg (by simp),if_neg (by simp[d0])]
   refine fon Tryz.func209 ?_;dsimp only[Tryz.f209];push_cast;refine cl h1 ?_;push_cast [a0'];refine cl h2 ?_;push_cast [b0',i0'];refine cl h3 ?_;push_cast;refine cl h4 ?_;push_cast [d0'];exact dn (by push_cast [ze,zd,CLe,zh,e])
  ·have d0':=WG d0;have e:qL w o=(w,(Xx w.fs (qd w.fs o.b).1.ino (qd w.fs o.a).1.data).2):=by unfold qL;rw[if_neg (by simp[a0]),if_neg (by simp[b0]),if_neg i0,ek,if_neg (by simp),if_pos d0]
   refine fon Tryz.func209 ?_;dsimp only[Tryz.f209];push_cast;refine cl h1 ?_;push_cast [a0'];refine cl h2 ?_;push_cast [b0',i0'];refine cl h3 ?_;push_cast;refine cl h4 ?_;push_cast [d0'];exact dn (by push_cast [ze,zd,CLe,zh,e])
theorem zcQ (w:qH) (hw:Q9 w) (hs:zaT w) (o:OpV) (s:zK) (hsp:zM w.fs s) (he:(zf s.ino w.fs.xs).es = []):Zb Tryz.prog G0 215 [.agg (XN s),.ptr 0 0,.ptr 1 0] [N8 w,opL o] 0 (.tup [Xm (XL w o.slot s).1,.sc (.int .i64 (XL w o.slot s).2)]) [N8 w,opL o] 0:=by
 have h:=zjc w hw hs.fs (by have:=hs.kept;omega) (by have:=hs.pool;omega) o.slot s hsp he;unfold opL;refine foB (fun _=>[]) Tryz.func215 ?_;dsimp only[Tryz.f215];push_cast;refine cl h ?_;push_cast;exact ⟨[],rfl,rfl,by push_cast [ze,zd,CLe,zh],by push_cast [ze,zd,CLe,zh]⟩
theorem zi8 (w:qH) (hw:Q9 w) (hs:zaT w) (o:OpV) (ho:Vs o) (pa:zT o.a=true):Zb Tryz.prog G0 214 [Xm w,.str o.a,.clo (.func 215) [] [.ptr 0 0,.ptr 1 0]] [N8 w,opL o] 0 (.tup [Xm (jf w o).1,.sc (.int .i64 (jf w o).2)]) [N8 w,opL o] 0:=by
 have h1:=Z7 w.fs hw.fs hs.fs o.a ho.1;by_cases h0:(isV w.fs o.a true).2.2=0
 ·have h0':=eq_true h0;obtain ⟨t1,t2⟩:=jB hw.fs pa h0;by_cases hes:(isV w.fs o.a true).2.1.es = []
  ·have hel:(0<(zO (isV w.fs o.a true).2.1.es).length)=False:=WG (by rw[hes];simp);have he:(zf (isV w.fs o.a true).1.ino w.fs.xs).es = []:=by rw[←t2];exact hes
   have hd:=zcQ w hw hs o (isV w.fs o.a true).1 t1 he;have e:jf w o=XL w o.slot (isV w.fs o.a true).1:=by unfold jf;simp[h0,hes]
   unfold opL at hd ⊢;refine foB (fun _=>[]) Tryz.func214 ?_;dsimp only[Tryz.f214];push_cast;refine cl h1 ?_;push_cast [h0',hel];refine Yz [0,1] [] hd rfl (by decide) (by decide) (by simp) (by push_cast) (by push_cast) ?_;push_cast;exact ⟨[],rfl,rfl,by push_cast [ze,zd,CLe,zh],by push_cast [ze,zd,CLe,zh,e]⟩
  ·have hel:(0<(zO (isV w.fs o.a true).2.1.es).length)=True:=eq_true (by rw[We];exact WI.2 hes);have e:jf w o=(w,5):=by unfold jf;simp[h0,hes]
   unfold opL;refine foB (fun _=>[]) Tryz.func214 ?_;dsimp only[Tryz.f214];push_cast;refine cl h1 ?_;push_cast [h0',hel];exact ⟨[],rfl,rfl,by push_cast [ze,zd,CLe,zh],by push_cast [ze,zd,CLe,zh,e]⟩
 ·have h0':=WG h0;have e:jf w o=(w,(isV w.fs o.a true).2.2):=by unfold jf;simp[h0]
  unfold opL;refine foB (fun _=>[]) Tryz.func214 ?_;dsimp only[Tryz.f214];push_cast;refine cl h1 ?_;push_cast [h0'];exact ⟨[],rfl,rfl,by push_cast [ze,zd,CLe,zh],by push_cast [ze,zd,CLe,zh,e]⟩
theorem zeC (w:qH) (hw:Q9 w) (hs:zaT w) (o:OpV) (ho:Vs o) (pa:zT o.a=true):Fun Tryz.prog G0 206 [Xm w,.agg (opL o)] (.tup [Xm (JK w o.a 2 []).1,.sc (.int .i64 (JK w o.a 2 []).2)]) 0:=by
 have h:=Nc w hw hs o.a ho.1 pa 2 [] (by simp);unfold opL;refine fon Tryz.func206 ?_;dsimp only[Tryz.f206];push_cast;refine cl h ?_;push_cast;exact dn
theorem zdO (w:qH) (hw:Q9 w) (hs:zaT w) (o:OpV) (ho:Vs o) (pa:zT o.a=true) (hd:o.d.length<=10000):Fun Tryz.prog G0 210 [Xm w,.agg (opL o)] (.tup [Xm (JK w o.a 3 o.d).1,.sc (.int .i64 (JK w o.a 3 o.d).2)]) 0:=by
 have h:=Nc w hw hs o.a ho.1 pa 3 o.d hd;unfold opL;refine fon Tryz.func210 ?_;dsimp only[Tryz.f210];push_cast;refine cl h ?_;push_cast;exact dn
theorem zfs (w:qH) (hw:Q9 w) (hs:zaT w) (o:OpV) (ho:Vs o) (pa:zT o.a=true):Fun Tryz.prog G0 213 [Xm w,.agg (opL o)] (.tup [Xm (jf w o).1,.sc (.int .i64 (jf w o).2)]) 0:=by
 have h:=zi8 w hw hs o ho pa;unfold opL at h ⊢;refine fon Tryz.func213 ?_;dsimp only[Tryz.f213];push_cast;refine Yz [0,1] [] h rfl (by decide) (by decide) (by simp) (by push_cast) (by push_cast) ?_;push_cast;exact dn
end
section
open Go.RowKit
section
variable {G:zq}
abbrev zqK:List C:=[.clo (.func 206) [] [],.clo (.func 208) [] [],.clo (.func 209) [] [],.clo (.func 210) [] [],.clo (.func 211) [] [],.clo (.func 212) [] [],.clo (.func 213) [] [],.clo (.func 217) [] [],.clo (.func 220) [] [],.clo (.func 221) [] []]
theorem YF:Fun Tryz.prog G 171 [] (.mo 0 231 (.int .i64 [1,2,3,4,5,6,7,8,9,10]) zqK) 1:=by
 refine fon Tryz.func171 ?_;dsimp only[Tryz.f171];push_cast [VV,Q0,WX,Om,W8,reduceIte,Int.reduceEq];exact ⟨[.inl 0],rfl,rfl,by push_cast [ze,zd,CLe,zh]⟩
end
end
section
open CA CB
open Go.RowKit
theorem Fun.g0 {G':zq} {f:FuncId} {r:C} {n:Nat} (h:Fun P G0 f args r n):Fun P G' f args r n:=⟨h.1,fun R vs hg hv=>h.2 R vs (yU R) hv⟩
theorem zlm (w:qH) (hw:Q9 w) (hs:zaT w) (o:OpV) (ho:Vs o) (hd:o.d.length<=10000) (hk:o.kind<=7):Fun Tryz.prog G1 129 [Xm w,.agg (opL o)] (.tup [Xm (doV w o).1,.sc (.int .i64 (doV w o).2)]) 0:=by
 obtain ⟨k,s,a,b,d⟩:=o;cases hm:UL ⟨k,s,a,b,d⟩ with
 | false =>
  have e:doV w ⟨k,s,a,b,d⟩=(w,12):=by unfold doV;rw[hm];rfl
  have hop:=J5 k s a b d ho;rw[hm]at hop;rw[e];unfold opL jb at hop;unfold opL;refine fof (fun i=>if i=3 then [false,false,false,false,false,false,false,false,false,true] else []) Tryz.func129 ?_;dsimp only[Tryz.f129];push_cast;refine cl hop ?_;push_cast;exact dn
 | true =>
 have hk1:1<=k:=by
  unfold UL at hm;simp only[Wo,WR]at hm;exact hm.1.1.1.1.1.1
 obtain ⟨p1,p2,_⟩:=QJ hm;have hk7:k<=7:=hk;obtain rfl | rfl | rfl | rfl | rfl | rfl | rfl:k=1∨k=2∨k=3∨k=4∨k=5∨k=6∨k=7:=by omega
 ·have e:doV w ⟨1,s,a,b,d⟩=JK w a 2 []:=by unfold doV;rw[hm];rfl
  have hq:=(zeC w hw hs ⟨1,s,a,b,d⟩ ho p1).g0 (G':=G1);have hop:=J5 1 s a b d ho;rw[hm]at hop;rw[e];unfold opL jb at hop;unfold opL at hq ⊢;refine fof (fun i=>if i=3 then [false,false,false,false,false,false,false,false,false,true] else []) Tryz.func129 ?_;dsimp only[Tryz.f129];push_cast;refine cl hop ?_;push_cast;refine cl (YF (G:=G1)) ?_;push_cast [H8,Q0,reduceIte,Int.reduceEq,Wu,WX];refine cl hq ?_;push_cast;exact dn
 ·have e:doV w ⟨2,s,a,b,d⟩=Jk w ⟨2,s,a,b,d⟩:=by unfold doV;rw[hm];rfl
  have hq:=(zcA w hw hs ⟨2,s,a,b,d⟩ ho p1 (p2 rfl)).g0 (G':=G1);have hop:=J5 2 s a b d ho;rw[hm]at hop;rw[e];unfold opL jb at hop;unfold opL at hq ⊢;refine fof (fun i=>if i=3 then [false,false,false,false,false,false,false,false,false,true] else []) Tryz.func129 ?_;dsimp only[Tryz.f129];push_cast;refine cl hop ?_;push_cast;refine cl (YF (G:=G1)) ?_;push_cast [H8,Q0,reduceIte,Int.reduceEq,Wu,WX];refine cl hq ?_;push_cast;exact dn
 ·have e:doV w ⟨3,s,a,b,d⟩=qL w ⟨3,s,a,b,d⟩:=by unfold doV;rw[hm];rfl
  have hq:=(uB w hw hs ⟨3,s,a,b,d⟩ ho p1 (p2 rfl)).g0 (G':=G1);have hop:=J5 3 s a b d ho;rw[hm]at hop;rw[e];unfold opL jb at hop;unfold opL at hq ⊢;refine fof (fun i=>if i=3 then [false,false,false,false,false,false,false,false,false,true] else []) Tryz.func129 ?_;dsimp only[Tryz.f129];push_cast;refine cl hop ?_;push_cast;refine cl (YF (G:=G1)) ?_;push_cast [H8,Q0,reduceIte,Int.reduceEq,Wu,WX];refine cl hq ?_;push_cast;exact dn
 ·have e:doV w ⟨4,s,a,b,d⟩=JK w a 3 d:=by unfold doV;rw[hm];rfl
  have hq:=(zdO w hw hs ⟨4,s,a,b,d⟩ ho p1 hd).g0 (G':=G1);have hop:=J5 4 s a b d ho;rw[hm]at hop;rw[e];unfold opL jb at hop;unfold opL at hq ⊢;refine fof (fun i=>if i=3 then [false,false,false,false,false,false,false,false,false,true] else []) Tryz.func129 ?_;dsimp only[Tryz.f129];push_cast;refine cl hop ?_;push_cast;refine cl (YF (G:=G1)) ?_;push_cast [H8,Q0,reduceIte,Int.reduceEq,Wu,WX];refine cl hq ?_;push_cast;exact dn
 ·have e:doV w ⟨5,s,a,b,d⟩=jZ w ⟨5,s,a,b,d⟩:=by unfold doV;rw[hm];rfl
  have hq:=(zcm w hw hs ⟨5,s,a,b,d⟩ ho p1 (p2 rfl)).g0 (G':=G1);have hop:=J5 5 s a b d ho;rw[hm]at hop;rw[e];unfold opL jb at hop;unfold opL at hq ⊢;refine fof (fun i=>if i=3 then [false,false,false,false,false,false,false,false,false,true] else []) Tryz.func129 ?_;dsimp only[Tryz.f129];push_cast;refine cl hop ?_;push_cast;refine cl (YF (G:=G1)) ?_;push_cast [H8,Q0,reduceIte,Int.reduceEq,Wu,WX];refine cl hq ?_;push_cast;exact dn
 ·have e:doV w ⟨6,s,a,b,d⟩=YO w ⟨6,s,a,b,d⟩:=by unfold doV;rw[hm];rfl
  have hq:=(zfq w hw hs ⟨6,s,a,b,d⟩ ho p1 (p2 rfl)).g0 (G':=G1);have hop:=J5 6 s a b d ho;rw[hm]at hop;rw[e];unfold opL jb at hop;unfold opL at hq ⊢;refine fof (fun i=>if i=3 then [false,false,false,false,false,false,false,false,false,true] else []) Tryz.func129 ?_;dsimp only[Tryz.f129];push_cast;refine cl hop ?_;push_cast;refine cl (YF (G:=G1)) ?_;push_cast [H8,Q0,reduceIte,Int.reduceEq,Wu,WX];refine cl hq ?_;push_cast;exact dn
 ·have e:doV w ⟨7,s,a,b,d⟩=jf w ⟨7,s,a,b,d⟩:=by unfold doV;rw[hm];rfl
  have hq:=(zfs w hw hs ⟨7,s,a,b,d⟩ ho p1).g0 (G':=G1);have hop:=J5 7 s a b d ho;rw[hm]at hop;rw[e];unfold opL jb at hop;unfold opL at hq ⊢;refine fof (fun i=>if i=3 then [false,false,false,false,false,false,false,false,false,true] else []) Tryz.func129 ?_;dsimp only[Tryz.f129];push_cast;refine cl hop ?_;push_cast;refine cl (YF (G:=G1)) ?_;push_cast [H8,Q0,reduceIte,Int.reduceEq,Wu,WX];refine cl hq ?_;push_cast;exact dn
end
section
open Go.RowKit
section
variable {G:zq}
theorem Md (o:OpV):Fun Tryz.prog G 128 [.agg (opL o)] (.sc (.bool (decide (o.kind=3∨o.kind=7)))) 0:=by
 unfold opL;by_cases h:o.kind=3
 ·have h':=eq_true h;refine fon Tryz.func128 ?_;dsimp only[Tryz.f128];push_cast [h'];exact dn (by push_cast [ze,zd,CLe,zh,h',true_or,decide_true])
 ·have h':=WG h;refine fon Tryz.func128 ?_;dsimp only[Tryz.f128];push_cast [h'];exact dn (by push_cast [ze,zd,CLe,zh,h',false_or])
end
end
section
open Go.RowKit
abbrev zrH (d:zF):List C:=[.sc (.int .i64 d.w.fs.maxI),.sc (.int .i64 d.w.fs.maxB),.sc (.int .i64 d.w.fs.next),.sl 6 (zt d.w.fs.xs),.sl 4 (zJ d.w.kept),.sl 6 (zt d.w.pool),.sl 5 (d.ops.map opL),.sl 1 (qj d.diags),.sc (.int .i64 d.status),.sc (.int .i64 d.slot)]
abbrev HE (d:zF):C:=.agg (zrH d)
section
variable {G:zq}
end
end
section
open CA CB
open Go.RowKit
theorem zbm [DecidableEq κ] {key:α->κ} {n:κ} {xs:List α} {i:Nat} (h:i<xs.length) (h0:JZ key n (xs.take i)=false) :
  (key xs[i]=n->qM key n xs=some xs[i])/\(key xs[i]≠n->JZ key n (xs.take (i+1))=false):=by
 have e:xs=xs.take i++xs[i] :: xs.drop (i+1):=by rw[←Ok h,W1]
 refine ⟨fun hk=>?_,fun hk=>?_⟩
 ·have q:qM key n xs=qM key n (xs.take i++xs[i] :: xs.drop (i+1)):=Wv _ e;rw[q];unfold qM;unfold JZ at h0;rw[Oh]at h0;rw[List.find?_append,A8.2 fun x hx=>h0 x hx,Option.none_or,OQ,Wl hk]
 ·unfold JZ at h0 ⊢;rw[WZ,Wa h,BF,h0];simp[hk]
theorem zjp [DecidableEq κ] {key:α->κ} {n:κ} {xs:List α} (h0:JZ key n xs=false):qM key n xs=none:=by
 rw[qx]at h0;cases h:qM key n xs with
 | none=>rfl
 | some x=>rw[h]at h0;cases h0
section
variable {G:zq}
theorem zgQ (es:List zN) (n:Lz) (hl:es.length<=100000):Fun Tryz.prog G 51 [.sl 2 (zO es),.str n] (.tup [.sc (.int .i64 (zY n es)),.sc (.bool (YM n es))]) 0:=by
 have hll:(zO es).length=es.length:=We ..;refine fon Tryz.func51 ?_;dsimp only[Tryz.f51];push_cast;refine loop (fun i:Nat=>⟨[(0,.sl 2 (zO es)),(1,.str n),(6,.sc (.int .i64 i))],[],0,0⟩) (fun i=>i<=es.length/\JZ zN.name n (es.take i)=false) (fun i=>es.length-i) 0 ⟨Wd _,rfl⟩ ?_ ?_
 ·exact wk
 ·rintro i ⟨h1,h2⟩;by_cases h:i<es.length
  ·have g1:=Yg es i h;obtain ⟨q1,q2⟩:=zbm h h2;by_cases he:es[i].name=n
   ·have q:=q1 he;have e1:YM n es=true:=by unfold YM;rw[qx,q];rfl
    have e2:zY n es=es[i].ino:=by unfold zY;rw[q]
    push_cast [hll,h,g1,he]
    repeat refine an ?_
    exact dn (by push_cast [ze,zd,CLe,zh,e1,e2])
   ·push_cast [hll,h,g1,he]
    repeat refine an ?_
    exact ⟨i+1,⟨h,q2 he⟩,by omega,wk⟩
  ·rw[Wg (by omega)]at h2;have e1:YM n es=false:=h2;have e2:zY n es=0:=by unfold zY;rw[zjp h2]
   push_cast [hll,h];exact dn (by push_cast [ze,zd,CLe,zh,e1,e2])
end
theorem vF (f:FsV) (hf:FsI f) (hs:FsS f) (p:Lz) (hp:p.length<=1000000):Fun Tryz.prog G0 22 [.agg (fsC f),.str p] (.tup [.agg (XN (atV f p).1),.sc (.int .i64 (atV f p).2)]) 0:=by
 have hpl:=Us p (by omega);have hlen:=hs.len;have hnl:(zn p).length<=1000000:=by have:=qW p;omega
 cases hpp:jK p with
 | false =>
  have e:atV f p=(js,9):=by unfold atV;rw[hpp];rfl
  unfold Y8 at hpl;rw[hpp]at hpl;refine fof (fun i=>if i=14 then [false,false,false,false,false,false,false,false,true] else []) Tryz.func22 ?_;dsimp only[Tryz.f22];push_cast;refine cl hpl ?_;push_cast;exact dn (by push_cast [ze,zd,CLe,zh,e,js])
 | true =>
  have e:atV f p=atW f.xs (zn p) ⟨0,[],1⟩:=by unfold atV;rw[hpp];rfl
  unfold Y8 at hpl;rw[hpp,if_pos rfl]at hpl;generalize zn p=ns at hpl hnl e;have hsl:(qj ns).length=ns.length:=We ..;refine fof (fun i=>if i=14 then [false,false,false,false,false,false,false,false,true] else []) Tryz.func22 ?_;dsimp only[Tryz.f22];push_cast;refine cl hpl ?_;push_cast;refine loop (fun x:Nat×zK=>⟨[(1,.str p),(2,.ptr 0 0),(4,.ptr 1 0),(6,.own 0 9 1 (qj ns)),(8,.ptr 2 0),(9,.sc (.int .i64 x.1))],[fsC f,[.sc (.int .i64 0),.str [],.sc (.int .i64 0)],XN x.2],1,0⟩)
   (fun x=>x.1<=ns.length/\atW f.xs ns ⟨0,[],1⟩=atW f.xs (ns.drop x.1) x.2/\(x.2.ino≠0->zk x.2.ino f.xs=true)) (fun x=>ns.length-x.1) (0,⟨0,[],1⟩) ⟨Wd _,rfl,fun _=>hf.root⟩ ?_ ?_
  ·exact wks [.inl 0] (by push_cast [ze,zd,CLe,zh,hsl])
  rintro ⟨k,s⟩ ⟨hk,hat,hin⟩;simp only at hk hat hin ⊢;by_cases hlt:k<ns.length
  ·have gs:=MT hlt;have hdr:ns.drop k=ns[k] :: ns.drop (k+1):=Ok hlt;obtain ⟨nm,hnm⟩:∃ nm,ns[k]=nm:=⟨_,rfl⟩;rw[hnm]at gs hdr;by_cases h0:s.ino=0
   ·have hr:atV f p=(js,1):=by rw[e,hat,hdr];unfold atW;rw[if_pos h0]
    push_cast [hsl,hlt,h0];exact dn (by push_cast [ze,zd,CLe,zh,hr,js])
   ·have hh:=hin h0;have hg:=Jt (G:=G0) f s.ino (by omega);have hgg:=zi hh;rw[hh]at hg;by_cases hk2:(zf s.ino f.xs).kind=2
    ·have hfd:=zgQ (G:=G0) (zf s.ino f.xs).es nm (by have:=hs.es hh;omega);have hnx:atW f.xs ns ⟨0,[],1⟩=atW f.xs (ns.drop (k+1)) ⟨(zf s.ino f.xs).ino,nm,zY nm (zf s.ino f.xs).es⟩:=by
      rw[hat,hdr]
      conv=>lhs;unfold atW
      rw[if_neg h0,if_neg (by simp[hk2])]
     have hin2:zY nm (zf s.ino f.xs).es≠0->zk (zY nm (zf s.ino f.xs).es) f.xs=true:=fun hne=>by
      refine VI hf hh ?_;unfold YM;rw[qx];cases hq:qM zN.name nm (zf s.ino f.xs).es with
      | some e=>rfl
      | none=>unfold zY at hne;rw[hq]at hne;exact absurd rfl hne
     push_cast [hsl,hlt,h0];refine cl hg ?_;push_cast [hk2,gs]
     repeat refine an ?_
     refine cl hfd ?_;push_cast [gs]
     repeat refine an ?_
     exact ⟨(k+1,⟨(zf s.ino f.xs).ino,nm,zY nm (zf s.ino f.xs).es⟩),⟨hlt,hnx,hin2⟩,by simp only;omega,wks [.inl 0]⟩
    ·have hr:atV f p=(js,3):=by rw[e,hat,hdr];unfold atW;rw[if_neg h0,if_pos hk2]
     push_cast [hsl,hlt,h0];refine cl hg ?_;push_cast [hk2];exact dn (by push_cast [ze,zd,CLe,zh,hr,js])
  ·have hd0:ns.drop k = []:=OI (by omega);have hr:atV f p=(s,0):=by rw[e,hat,hd0];rfl
   push_cast [hsl,hlt];exact dn (by push_cast [ze,zd,CLe,zh,hr])
end
section
open CA CB
open Go.RowKit
theorem zkm {f:C} (hx:x.es = []) (R:Env) (vs:List Value) (h:zx R zU [f,.agg [.sc (.int .i64 x.ino),.sc (.int .i64 x.kind),.sc (.int .i64 x.links),.str x.data,.sc (.int .i64 x.parent),.sc (.slice none 0 0)]] vs):zx R zU [f,.agg (Yw x)] vs:=by
 obtain ⟨v1,us1,rfl,h1,h⟩:=zg.1 h;obtain ⟨v2,us2,rfl,h2,h⟩:=zg.1 h;refine zg.2 ⟨_,_,rfl,h1,zg.2 ⟨_,_,rfl,?_,h⟩⟩;obtain ⟨ws,rfl,hw⟩:=Jd.1 h2;obtain ⟨w1,t1,e1,g1,hw⟩:=zg.1 hw;obtain ⟨w2,t2,e2,g2,hw⟩:=zg.1 hw;obtain ⟨w3,t3,e3,g3,hw⟩:=zg.1 hw;obtain ⟨w4,t4,e4,g4,hw⟩:=zg.1 hw;obtain ⟨w5,t5,e5,g5,hw⟩:=zg.1 hw;obtain ⟨w6,t6,e6,g6,hw⟩:=zg.1 hw;refine Jd.2 ⟨ws,rfl,?_⟩;have g6':Rep R zU (.sl 2 (zO x.es)) w6:=by rw[hx];exact zaq g6
 rw[e1,e2,e3,e4,e5,e6];exact zg.2 ⟨_,_,rfl,g1,zg.2 ⟨_,_,rfl,g2,zg.2 ⟨_,_,rfl,g3,zg.2 ⟨_,_,rfl,g4,zg.2 ⟨_,_,rfl,g5,zg.2 ⟨_,_,rfl,g6',hw⟩⟩⟩⟩⟩⟩
theorem zal {G:zq} (f:FsV) (x:zl) (hx:x.es = []) (hl:f.xs.length<=90000) :
  Fun Tryz.prog G 58 [.agg (fsC f),.agg [.sc (.int .i64 x.ino),.sc (.int .i64 x.kind),.sc (.int .i64 x.links),.str x.data,.sc (.int .i64 x.parent),.sc (.slice none 0 0)]] (.agg [.sc (.int .i64 f.maxI),.sc (.int .i64 f.maxB),.sc (.int .i64 f.next),.own 0 64 6 (zt (qo x f.xs))]) 1:=
 (GO f x hl).argsLe (zkm hx)
end
section
open CA CB
open Go.RowKit
theorem U6 {i:Nat} (h:i<ks.length):Jr (ks.take (i+1))=ks[i].slot:=by
 have q:(ks.take (i+1)).getLast?=some ks[i]:=by
  rw[List.getLast?_eq_getElem?,show (ks.take (i+1)).length-1=i by rw[W2];omega,Bm (by omega),Wa h]
 unfold Jr;rw[q]
section
variable {G:zq}
theorem kF (w:qH):Fun Tryz.prog G 106 [Xm w] (.agg [.sc (.int .i64 0),.sc (.int .i64 0),.sc (.int .i64 0),.sl 6 (zt w.pool)]) 0:=by
 refine fon Tryz.func106 ?_;dsimp only[Tryz.f106];push_cast;exact dn
theorem U2 (w:qH) (hk:w.kept.length<=100000) (hR:qU Jq zV.slot w.kept) (hp:∀ k∈w.kept,1<=k.slot):Fun Tryz.prog G 35 [Xm w] (.sc (.int .i64 (Jr w.kept))) 0:=by
 obtain ⟨f,ks,pool⟩:=w;have hk:ks.length<=100000:=hk;have hll:(zJ ks).length=ks.length:=We ..;show Fun Tryz.prog G 35 [Xm ⟨f,ks,pool⟩] (.sc (.int .i64 (Jr ks))) 0;have h0:Jr []=0:=rfl;refine fon Tryz.func35 ?_;dsimp only[Tryz.f35];push_cast;refine loop (fun i:Nat=>⟨[(1,.ptr 0 0),(3,.sc (.int .i64 (Jr (ks.take i)))),(4,.sc (.int .i64 i))],[N8 ⟨f,ks,pool⟩],0,0⟩) (fun i=>i<=ks.length) (fun i=>ks.length-i) 0 (Wd _) ?_ ?_
 ·exact wk (by push_cast [ze,zd,CLe,zh,Ow,h0])
 ·intro i hi;by_cases h:i<ks.length
  ·have g1:=J2 ks i h;have e1:Jr (ks.take (i+1))=ks[i].slot:=U6 h;have e2:(if ks[i].slot>Jr (ks.take i) then ks[i].slot else Jr (ks.take i))=ks[i].slot:=by
    suffices hle:Jr (ks.take i)<=ks[i].slot by split<;>omega
    rcases O2 i with rfl | hpos
    ·have:=hp _ (Wz h);show (0:Int)<=_;omega
    ·obtain ⟨j,rfl⟩:∃ j,i=j+1:=⟨i-1,by omega⟩;have hj:j<ks.length:=by omega
     rw[U6 hj];have:=(WO.1 hR) j (j+1) hj h (by omega);have:ks[j].slot<ks[j+1].slot:=WP this;omega
   push_cast [hll,h,g1]
   repeat refine an ?_
   exact ⟨i+1,h,by omega,wk (by push_cast [ze,zd,CLe,zh,e1,e2])⟩
  ·rw[Wg (by omega)];push_cast [hll,h];exact dn
end
end
section
open CA CB
open Go.RowKit
end
section
open CA CB
open Go.RowKit
def ztm (n:Int):List C:=[.sc (.int .i64 n)]
abbrev zr9 (l:List Int):List (List C):=l.map ztm
theorem yQ (l:List Int):(zr9 l).length=l.length:=We _
theorem zfy (l:List Int) (n:Int):zr9 l++[[.sc (.int .i64 n)]]=zr9 (l++[n]):=by simp[ztm]
attribute [push_cast] yQ zfy
abbrev zhJ (l:List OpV):List (List C):=l.map opL
theorem vI (l:List OpV):(zhJ l).length=l.length:=We _
theorem zdE (l:List OpV) (k:Nat) (h:k<l.length):(zhJ l)[k]?=some (opL (l[k]'h)):=by rw[Wy,Wa h];rfl
theorem zdZ (l:List OpV) (k:Nat):(zhJ l).take k=zhJ (l.take k):=List.map_take.symm
theorem zfO (l:List OpV) (k:Nat):(zhJ l).drop k=zhJ (l.drop k):=List.map_drop.symm
attribute [push_cast] vI zdZ zfO
end
section
open Go.RowKit
def zlI (l:List OpV):List Int:=(l.filter fun o=>Zh o.kind).map (·.slot)
end
section
open Go.RowKit
def znt (o p:OpV):Bool:=decide (o.kind=p.kind)&&decide (o.slot=p.slot)&&decide (o.a=p.a)&&decide (o.b=p.b)&&decide (o.d=p.d)
def Yj:List OpV->List OpV->Bool
 | [],[]=>true
 | o :: r,p :: s=>znt o p&&Yj r s
 | _,_=>false
theorem XY:∀ l m:List OpV,Yj l m=true↔l.length=m.length/\∀ (j:Nat) (h:j<l.length) (h':j<m.length),znt (l[j]'h) (m[j]'h')=true
 | [],[]=>by simp[Yj]
 | [],p :: s=>by simp[Yj]
 | o :: r,[]=>by simp[Yj]
 | o :: r,p :: s=>by
  have ih:=XY r s;simp only[Yj,Wo,ih,Wr];constructor
  ·rintro ⟨h1,h2,h3⟩;refine ⟨by omega,fun j hj hj'=>?_⟩;cases j with
   | zero=>exact h1
   | succ j=>exact h3 j (by omega) (by omega)
  ·rintro ⟨h1,h2⟩;exact ⟨h2 0 (by omega) (by omega),by omega,fun j hj hj'=>h2 (j+1) (by omega) (by omega)⟩
end
section
open CA CB
open Go.RowKit
end
section
open CA CB
open Go.RowKit
end
section
open CA CB
open Go.RowKit
def JM (f:FsV):Prop:=1<=f.maxI/\f.maxI<=1073741824/\0<=f.maxB/\f.maxB<=1073741824/\f.next<=1099511627776/\(∀ x∈f.xs,1<=x.ino/\x.ino<f.next)/\z6 f.xs/\zk 1 f.xs=true/\(zf 1 f.xs).kind=2
instance (f:FsV):Decidable (JM f):=by unfold JM;infer_instance
def Y7 (f:FsV):Prop:=∀ x∈f.xs,∀ e∈x.es,zk e.ino f.xs=true
instance (f:FsV):Decidable (Y7 f):=by unfold Y7;infer_instance
def HU (f:FsV):Prop:=(f.xs.length:Int)<=f.maxI/\(z8 f.xs:Int)<=f.maxB
instance (f:FsV):Decidable (HU f):=by unfold HU;infer_instance
theorem qp {l:List α} {i:Nat} (h:i<l.length) {P:α->Prop} (h1:∀ x∈l.take i,P x) (h2:P l[i]):∀ x∈l.take (i+1),P x:=fun x hx=>by
 rw[WZ,Wa h]at hx;rcases WB.1 hx with hx | hx
 ·exact h1 x hx
 ·simp at hx;subst hx;exact h2
section
variable {G:zq}
theorem yk (f:FsV) (hl:f.xs.length<=100000):Fun Tryz.prog G 153 [.agg (fsC f)] (.sc (.bool (decide (JM f)))) 0:=by
 have hll:(zt f.xs).length=f.xs.length:=We ..;refine fon Tryz.func153 ?_;dsimp only[Tryz.f153];by_cases e0:f.maxI<1
 case pos =>
  have hn:¬JM f:=fun h=>by have:=h.1;omega
  push_cast [e0];exact dn (by push_cast [ze,zd,CLe,zh,hn])
 by_cases e1:1073741824<f.maxI
 case pos =>
  have hn:¬JM f:=fun h=>by have:=h.2.1;omega
  push_cast [e0,e1];exact dn (by push_cast [ze,zd,CLe,zh,hn])
 by_cases e2:f.maxB<0
 case pos =>
  have hn:¬JM f:=fun h=>by have:=h.2.2.1;omega
  push_cast [e0,e1,e2];exact dn (by push_cast [ze,zd,CLe,zh,hn])
 by_cases e3:1073741824<f.maxB
 case pos =>
  have hn:¬JM f:=fun h=>by have:=h.2.2.2.1;omega
  push_cast [e0,e1,e2,e3];exact dn (by push_cast [ze,zd,CLe,zh,hn])
 by_cases e4:1099511627776<f.next
 case pos =>
  have hn:¬JM f:=fun h=>by have:=h.2.2.2.2.1;omega
  push_cast [e0,e1,e2,e3,e4];exact dn (by push_cast [ze,zd,CLe,zh,hn])
 push_cast [e0,e1,e2,e3,e4];refine loop (fun i:Nat=>⟨[(1,.ptr 0 0),(3,.sc (.int .i64 i))],[fsC f],0,0⟩) (fun i=>i<=f.xs.length/\∀ x∈f.xs.take i,1<=x.ino/\x.ino<f.next) (fun i=>f.xs.length-i) 0 ⟨Wd _,fun x hx=>by simp at hx⟩ ?_ ?_
 ·exact wk
 ·rintro i ⟨h1,h2⟩;by_cases h:i<f.xs.length
  ·have g1:=ju f.xs i h;by_cases c1:f.xs[i].ino<1
   ·have hn:¬JM f:=fun h'=>by have:=h'.2.2.2.2.2.1 _ (Wz h);omega
    push_cast [hll,h,g1,c1]
    repeat refine an ?_
    exact dn (by push_cast [ze,zd,CLe,zh,hn])
   ·by_cases c2:f.next<=f.xs[i].ino
    ·have hn:¬JM f:=fun h'=>by have:=h'.2.2.2.2.2.1 _ (Wz h);omega
     push_cast [hll,h,g1,c1,c2]
     repeat refine an ?_
     exact dn (by push_cast [ze,zd,CLe,zh,hn])
    ·push_cast [hll,h,g1,c1,c2]
     repeat refine an ?_
     exact ⟨i+1,⟨h,qp h h2 (by omega)⟩,by omega,wk⟩
  ·rw[Wg (by omega)]at h2;have hf:JM f↔z6 f.xs/\zk 1 f.xs=true/\(zf 1 f.xs).kind=2:=⟨fun h=>h.2.2.2.2.2.2,fun h=>⟨by omega,by omega,by omega,by omega,by omega,h2,h⟩⟩;push_cast [hll,h];refine cl (Jt f 1 hl) ?_;push_cast;by_cases c1:z6 f.xs
   ·cases c2:zk 1 f.xs with
    | true =>
     refine cl (UW f hl) ?_;push_cast [Wl c1,c2];exact dn (by push_cast [ze,zd,CLe,zh,hf,c1,c2])
    | false =>
     have hn:¬JM f:=fun h=>by have:=(hf.1 h).2.1;rw[c2]at this;cases this
     refine cl (UW f hl) ?_;push_cast [Wl c1,c2];exact dn (by push_cast [ze,zd,CLe,zh,hn])
   ·have hn:¬JM f:=fun h=>c1 (hf.1 h).1;refine cl (UW f hl) ?_;push_cast [Wi c1];exact dn (by push_cast [ze,zd,CLe,zh,hn])
theorem xI (f:FsV) (hf:FsS f):Fun Tryz.prog G 155 [.agg (fsC f)] (.sc (.bool (decide (Y7 f)))) 0:=by
 have hll:(zt f.xs).length=f.xs.length:=We ..;have h40:=hf.len;refine fof (fun i=>if i=7 then JJ 15 16 else []) Tryz.func155 ?_;dsimp only[Tryz.f155];push_cast;refine loop (fun i:Nat=>⟨[(1,.ptr 0 0),(3,.sc (.int .i64 i))],[fsC f],0,0⟩) (fun i=>i<=f.xs.length/\∀ x∈f.xs.take i,∀ e∈x.es,zk e.ino f.xs=true) (fun i=>f.xs.length-i) 0 ⟨Wd _,fun x hx=>by simp at hx⟩ ?_ ?_
 ·exact wk
 ·rintro i ⟨h1,h2⟩;by_cases h:i<f.xs.length
  ·have g1:=ju f.xs i h;have he:=(hf.node _ (Wz h)).1;have hle:(zO f.xs[i].es).length=f.xs[i].es.length:=We ..;push_cast [hll,h];refine loop (fun k:Nat=>⟨[(1,.ptr 0 0),(3,.sc (.int .i64 i)),(4,.sc (.int .i64 k))],[fsC f],0,0⟩) (fun k=>k<=f.xs[i].es.length/\∀ e∈f.xs[i].es.take k,zk e.ino f.xs=true) (fun k=>f.xs[i].es.length-k) 0 ⟨Wd _,fun x hx=>by simp at hx⟩ ?_ ?_
   ·exact wk
   ·rintro k ⟨h3,h4⟩;by_cases hk:k<f.xs[i].es.length
    ·have g2:=Yg f.xs[i].es k hk;push_cast [g1,hle,hk,g2]
     repeat refine an ?_
     refine cl (Jt f f.xs[i].es[k].ino (by omega)) ?_;push_cast;cases hh:zk f.xs[i].es[k].ino f.xs with
     | true =>
      push_cast [hh]
      repeat refine an ?_
      exact ⟨k+1,⟨hk,qp hk h4 hh⟩,by omega,wk⟩
     | false =>
      have hn:¬Y7 f:=fun h'=>by have:=h' _ (Wz h) _ (Wz hk);rw[hh]at this;cases this
      push_cast [hh];exact dn (by push_cast [ze,zd,CLe,zh,hn])
    ·rw[Wg (by omega)]at h4;push_cast [g1,hle,hk]
     repeat refine an ?_
     exact ⟨i+1,⟨h,qp h h2 h4⟩,by omega,wk⟩
  ·rw[Wg (by omega)]at h2;have hn:Y7 f:=h2;push_cast [hll,h];exact dn (by push_cast [ze,zd,CLe,zh,hn])
theorem za9 (f:FsV) (hf:FsS f) (hb:z8 f.xs<=100000000):Fun Tryz.prog G 143 [.agg (fsC f),.sc (.int .i64 0),.sc (.int .i64 0)] (.sc (.bool (decide (HU f)))) 0:=by
 have hll:(zt f.xs).length=f.xs.length:=We ..;have h40:=hf.len;refine fon Tryz.func143 ?_;dsimp only[Tryz.f143];by_cases c1:f.maxI<f.xs.length
 ·have hn:¬HU f:=fun h=>by have:=h.1;omega
  push_cast [hll,c1]
  repeat refine an ?_
  exact dn (by push_cast [ze,zd,CLe,zh,hn])
 ·have hn:HU f↔(z8 f.xs:Int)<=f.maxB:=⟨fun h=>h.2,fun h=>⟨by omega,h⟩⟩;push_cast [hll,c1]
  repeat refine an ?_
  refine cl (zex f hf) ?_;push_cast
  repeat refine an ?_
  exact dn (by push_cast [ze,zd,CLe,zh,hn])
end
end
section
open Go.RowKit
abbrev VS (x:zl) (es:List zN):List (Int×Int):=es.map fun e=>(e.ino,x.ino)
def qn (xs:List zl):List (Int×Int):=xs.flatMap fun x=>VS x x.es
def Zx (n:Int) (l:List (Int×Int)):Nat:=(l.filter fun p=>p.1==n).length
def UB (n:Int) (l:List (Int×Int)):Int:=(((l.filter fun p=>p.1==n).getLast?).map (·.2)).getD 0
theorem zmO {p:Int×Int}:Zx n (l++[p])=Zx n l+if p.1=n then 1 else 0:=by
 unfold Zx;rw[O3,Wn];by_cases h:p.1=n<;>simp[h]
theorem ziT {p:Int×Int}:UB n (l++[p])=if p.1=n then p.2 else UB n l:=by
 unfold UB;rw[O3];by_cases h:p.1=n<;>simp[h]
theorem zdl {i:Nat} (h:i<xs.length):qn (xs.take (i+1))=qn (xs.take i)++VS xs[i] xs[i].es:=by
 unfold qn;rw[WZ,Wa h,AK];simp
theorem zcs {es:List zN} (h:k<es.length):VS x (es.take (k+1))=VS x (es.take k)++[(es[k].ino,x.ino)]:=by
 rw[WZ,Wa h,Option.toList_some];exact W5
theorem zd1 (hf:∀ x∈xs,x.es.length<=10000):(qn xs).length<=xs.length*10000:=by
 induction xs with
 | nil=>exact Wb _
 | cons x r ih =>
  have h1:=hf x Wj;have h2:=ih fun y hy=>hf y (Wk _ hy);unfold qn at h2 ⊢;rw[O0,Wn,We,Wr];omega
theorem zrw:Zx n l<=l.length:=Ak _ _
def V5 (xs:List zl) (x:zl):Prop:=x.links=Zx x.ino (qn xs)/\if x.ino=1 then Zx x.ino (qn xs)=0/\x.parent=1 else 1<=Zx x.ino (qn xs)/\(x.kind=2->Zx x.ino (qn xs)=1/\x.parent=UB x.ino (qn xs))
instance (xs:List zl) (x:zl):Decidable (V5 xs x):=by unfold V5;infer_instance
def Y9 (f:FsV):Prop:=∀ x∈f.xs,V5 f.xs x
instance (f:FsV):Decidable (Y9 f):=by unfold Y9;infer_instance
section
variable {G:zq}
theorem zdt (f:FsV) (n:Int) (hf:FsS f):Fun Tryz.prog G 189 [.agg (fsC f),.sc (.int .i64 n)] (.tup [.sc (.int .i64 (Zx n (qn f.xs):Nat)),.sc (.int .i64 (UB n (qn f.xs)))]) 0:=by
 have hll:(zt f.xs).length=f.xs.length:=We ..;have h40:=hf.len;have hc0:Zx n (qn [])=0:=rfl;have hl0:UB n (qn [])=0:=rfl;refine fon Tryz.func189 ?_;dsimp only[Tryz.f189];push_cast;refine loop (fun i:Nat=>⟨[(1,.sc (.int .i64 n)),(2,.ptr 0 0),(6,.sc (.int .i64 (Zx n (qn (f.xs.take i)):Nat))),(7,.sc (.int .i64 (UB n (qn (f.xs.take i))))),(8,.sc (.int .i64 i))],[fsC f],0,0⟩) (fun i=>i<=f.xs.length) (fun i=>f.xs.length-i) 0 (Wd _) ?_ ?_
 ·exact wk (by push_cast [ze,zd,CLe,zh,Ow,hc0,hl0])
 ·intro i h1;by_cases h:i<f.xs.length
  ·have g1:=ju f.xs i h;have hle:(zO f.xs[i].es).length=f.xs[i].es.length:=We ..;have hpl:(qn (f.xs.take i)).length<=i*10000:=by
    have:=zd1 (xs:=f.xs.take i) fun x hx=>(hf.node x (Ww hx)).1;rw[W2]at this;exact WN this (WM _ (Nat.min_le_left _ _))
   have h40e:=(hf.node _ (Wz h)).1;push_cast [hll,h];refine loop (fun k:Nat=>⟨[(1,.sc (.int .i64 n)),(2,.ptr 0 0),(6,.sc (.int .i64 (Zx n (qn (f.xs.take i)++VS f.xs[i] (f.xs[i].es.take k)):Nat))),(7,.sc (.int .i64 (UB n (qn (f.xs.take i)++VS f.xs[i] (f.xs[i].es.take k))))),(8,.sc (.int .i64 i)),(9,.sc (.int .i64 k))],[fsC f],0,0⟩) (fun k=>k<=f.xs[i].es.length) (fun k=>f.xs[i].es.length-k) 0 (Wd _) ?_ ?_
   ·exact wk (by push_cast [ze,zd,CLe,zh,Ow,Od])
   ·intro k hk0;by_cases hk:k<f.xs[i].es.length
    ·have g2:=Yg f.xs[i].es k hk;have ht:=zcs (x:=f.xs[i]) hk;have hcl:=zrw (n:=n) (l:=qn (f.xs.take i)++VS f.xs[i] (f.xs[i].es.take k));rw[Wn,We,W2]at hcl;have hca:=zmO (n:=n) (l:=qn (f.xs.take i)++VS f.xs[i] (f.xs[i].es.take k)) (p:=(f.xs[i].es[k].ino,f.xs[i].ino));have hla:=ziT (n:=n) (l:=qn (f.xs.take i)++VS f.xs[i] (f.xs[i].es.take k)) (p:=(f.xs[i].es[k].ino,f.xs[i].ino));rw[WL,←ht]at hca hla;by_cases hc:f.xs[i].es[k].ino=n
     ·rw[if_pos hc]at hca hla;push_cast [g1,hle,hk,g2,hc]
      repeat refine an ?_
      exact ⟨k+1,hk,by omega,wk (by push_cast [ze,zd,CLe,zh,hca,hla])⟩
     ·rw[if_neg hc]at hca hla;push_cast [g1,hle,hk,g2,hc]
      repeat refine an ?_
      exact ⟨k+1,hk,by omega,wk (by push_cast [ze,zd,CLe,zh,hca,hla])⟩
    ·have hkk:f.xs[i].es.take k=f.xs[i].es:=Wg (by omega);rw[hkk];have ht:=zdl h;push_cast [g1,hle,hk]
     repeat refine an ?_
     exact ⟨i+1,h,by omega,wk (by push_cast [ze,zd,CLe,zh,ht])⟩
  ·rw[Wg (by omega)];push_cast [hll,h];exact dn
end
end
section
open CA CB
open Go.RowKit
section
variable {G:zq}
theorem H7 (f:FsV) (hf:FsS f):Fun Tryz.prog G 156 [.agg (fsC f)] (.sc (.bool (decide (Y9 f)))) 0:=by
 have hll:(zt f.xs).length=f.xs.length:=We ..;have h40:=hf.len;refine fon Tryz.func156 ?_;dsimp only[Tryz.f156];push_cast;refine loop (fun i:Nat=>⟨[(1,.ptr 0 0),(3,.sc (.int .i64 i))],[fsC f],0,0⟩) (fun i=>i<=f.xs.length/\∀ x∈f.xs.take i,V5 f.xs x) (fun i=>f.xs.length-i) 0 ⟨Wd _,fun x hx=>by simp at hx⟩ ?_ ?_
 ·exact wk
 ·rintro i ⟨h1,h2⟩;by_cases h:i<f.xs.length
  ·have g1:=ju f.xs i h;have hbad:¬V5 f.xs f.xs[i]->¬Y9 f:=fun hn h'=>hn (h' _ (Wz h));have hdef:V5 f.xs f.xs[i]↔f.xs[i].links=Zx f.xs[i].ino (qn f.xs)/\if f.xs[i].ino=1 then Zx f.xs[i].ino (qn f.xs)=0/\f.xs[i].parent=1 else 1<=Zx f.xs[i].ino (qn f.xs)/\(f.xs[i].kind=2->Zx f.xs[i].ino (qn f.xs)=1/\f.xs[i].parent=UB f.xs[i].ino (qn f.xs)):=Iff.rfl;push_cast [hll,h,g1]
   repeat refine an ?_
   refine cl (zdt f f.xs[i].ino hf) ?_;push_cast;generalize Zx f.xs[i].ino (qn f.xs)=c at hdef;generalize UB f.xs[i].ino (qn f.xs)=d at hdef;by_cases c1:f.xs[i].links=(c:Int)
   case neg =>
    have hn:=hbad fun h=>c1 (hdef.1 h).1;push_cast [c1];exact dn (by push_cast [ze,zd,CLe,zh,hn])
   by_cases c2:f.xs[i].ino=1
   ·rw[if_pos c2]at hdef;by_cases c3:(c:Int)=0
    ·by_cases c4:f.xs[i].parent=1
     ·push_cast [c1,c2,c3,c4]
      repeat refine an ?_
      exact ⟨i+1,⟨h,qp h h2 (hdef.2 ⟨c1,by omega,c4⟩)⟩,by omega,wk⟩
     ·have hn:=hbad fun h=>c4 (hdef.1 h).2.2;push_cast [c1,c2,c3,c4];exact dn (by push_cast [ze,zd,CLe,zh,hn])
    ·have hn:=hbad fun h=>by have:=(hdef.1 h).2.1;omega
     push_cast [c1,c2,c3];exact dn (by push_cast [ze,zd,CLe,zh,hn])
   ·rw[if_neg c2]at hdef;by_cases c3:(c:Int)<1
    ·have hn:=hbad fun h=>by have:=(hdef.1 h).2.1;omega
     push_cast [c1,c2,c3];exact dn (by push_cast [ze,zd,CLe,zh,hn])
    by_cases c4:f.xs[i].kind=2
    ·by_cases c5:(c:Int)=1
     ·by_cases c6:f.xs[i].parent=d
      ·push_cast [c1,c2,c3,c4,c5,c6]
       repeat refine an ?_
       exact ⟨i+1,⟨h,qp h h2 (hdef.2 ⟨c1,by omega,fun _=>⟨by omega,c6⟩⟩)⟩,by omega,wk⟩
      ·have hn:=hbad fun h=>c6 ((hdef.1 h).2.2 c4).2;push_cast [c1,c2,c3,c4,c5,c6];exact dn (by push_cast [ze,zd,CLe,zh,hn])
     ·have hn:=hbad fun h=>by have:=((hdef.1 h).2.2 c4).1;omega
      push_cast [c1,c2,c3,c4,c5];exact dn (by push_cast [ze,zd,CLe,zh,hn])
    ·push_cast [c1,c2,c3,c4]
     repeat refine an ?_
     exact ⟨i+1,⟨h,qp h h2 (hdef.2 ⟨c1,by omega,fun h=>absurd h c4⟩)⟩,by omega,wk⟩
  ·rw[Wg (by omega)]at h2;have hn:Y9 f:=h2;push_cast [hll,h];exact dn (by push_cast [ze,zd,CLe,zh,hn])
end
end
section
open CA CB
open Go.RowKit
abbrev zcp (S:List Int):List (List C):=S.map fun n=>[C.sc (.int .i64 n)]
def Y0 (S:List Int) (n:Int):List Int:=if n∈S then S else S++[n]
def HF (S:List Int) (es:List zN):List Int:=es.foldl (fun s e=>Y0 s e.ino) S
def Zo (xs:List zl):Nat->Nat->List Int->List Int
 | 0,_,S=>S
 | m+1,i,S=>match S[i]? with
  | some n=>Zo xs m (i+1) (HF S (zf n xs).es)
  | none=>S
def Zd (f:FsV):Prop:=(Zo f.xs (f.xs.length+1) 0 [1]).length=f.xs.length
instance (f:FsV):Decidable (Zd f):=by unfold Zd;infer_instance
theorem UJ:∀ {S T:List Int},S.Nodup->(∀ n∈S,n∈T)->S.length<=T.length
 | [],T,_,_=>Wd _
 | a :: r,T,hn,hs=>by
  have ha:=hs a Wj;obtain ⟨h1,h2⟩:=OP.1 hn;have:=UJ (S:=r) (T:=T.erase a) h2 fun n hr=>(List.mem_erase_of_ne (fun e=>h1 (by rw[←e];exact hr))).2 (hs n (Wk _ hr));rw[List.length_erase_of_mem ha]at this;have hpos:=WI.2 (List.ne_nil_of_mem ha);rw[Wr];omega
theorem U0:zk n xs=true↔n∈xs.map (·.ino):=by
 unfold zk;rw[Or,WQ];simp
theorem XJ (hn:S.Nodup) (hs:∀ n∈S,zk n xs=true):S.length<=xs.length:=by
 have:=UJ (T:=xs.map (·.ino)) hn fun n h=>U0.1 (hs n h);rwa [We]at this
theorem xu (h:S.Nodup):(Y0 S n).Nodup:=by
 unfold Y0;split
 ·exact h
 ·rw[Aa];refine ⟨h,by simp,fun a ha b hb e=>?_⟩;simp at hb;subst hb;subst e;contradiction
theorem Gv {m:Int}:m∈Y0 S n↔m∈S∨m=n:=by
 unfold Y0;split
 ·constructor
  ·exact .inl
  ·rintro (h | h)
   ·exact h
   ·rw[h];assumption
 ·simp
theorem qY (h:zk n xs=true):zf n xs∈xs/\(zf n xs).ino=n:=by
 unfold zk at h;unfold zf XE;cases hq:xs.find? fun x=>x.ino==n with
 | none =>
  rw[A8]at hq;obtain ⟨x,hx,he⟩:=Or.1 h;exact absurd he (hq x hx)
 | some y =>
  exact ⟨Bg hq,by simpa using List.find?_some hq⟩
theorem zgB {es:List zN} (h:k<es.length):HF S (es.take (k+1))=Y0 (HF S (es.take k)) es[k].ino:=by
 unfold HF;rw[WZ,Wa h,List.foldl_append]
 rfl
theorem zkU (es:List zN):∀ (S:List Int),S <+: HF S es:=by
 induction es with
 | nil=>exact fun S=>List.prefix_refl S
 | cons e r ih =>
  intro S;refine List.IsPrefix.trans ?_ (ih (Y0 S e.ino));unfold Y0;split
  ·exact List.prefix_refl S
  ·exact List.prefix_append S _
theorem zh0 (S:List Int) (es:List zN):S.length<=(HF S es).length:=(zkU es S).length_le
structure Y5 (xs:List zl) (S:List Int):Prop where
 nodup:S.Nodup
 has:∀ n∈S,zk n xs=true
theorem Y5.len (h:Y5 xs S):S.length<=xs.length:=XJ h.nodup h.has
theorem Y5.one (h:Y5 xs S) (hn:zk n xs=true):Y5 xs (Y0 S n):=⟨xu h.nodup,fun m hm=>by
 rcases Gv.1 hm with hm | rfl
 ·exact h.has m hm
 ·exact hn⟩
theorem zfS {j:Nat} (h:j<S.length):((S.take (j+1)).any fun m=>decide (m=n))=(((S.take j).any fun m=>decide (m=n))||decide (S[j]=n)):=by
 rw[WZ,Wa h,BF];simp
theorem zmA:(S.any fun m=>decide (m=n))=decide (n∈S):=by
 rw[Bool.eq_iff_iff,Or,decide_eq_true_iff];constructor
 ·rintro ⟨m,hm,h⟩;exact (WP h)▸hm
 ·exact fun h=>⟨n,h,Wl rfl⟩
theorem zah (S:List Int) (i:Nat) (h:i<S.length):(zcp S)[i]?=some [.sc (.int .i64 S[i])]:=by simp[Wy,Wa h]
section
variable {G:zq}
theorem yn (f:FsV) (hf:FsS f) (h3:Y7 f) (h1:zk 1 f.xs=true):Fun Tryz.prog G 157 [.agg (fsC f)] (.sc (.bool (decide (Zd f)))) 0:=by
 have hll:(zt f.xs).length=f.xs.length:=We ..;have h40:=hf.len;refine fof (fun i=>if i=5 then JJ 9 10 else []) Tryz.func157 ?_;dsimp only[Tryz.f157];push_cast;refine loop (fun p:Nat×List Int=>⟨[(1,.ptr 0 0),(3,.own 0 3 1 (zcp p.2)),(4,.sc (.int .i64 p.1))],[fsC f],1,0⟩) (fun p=>p.1<=p.2.length/\Y5 f.xs p.2/\Zo f.xs (f.xs.length+1-p.1) p.1 p.2=Zo f.xs (f.xs.length+1) 0 [1]) (fun p=>f.xs.length+1-p.1) (0,[1]) ⟨Wd _,⟨by simp,fun n hn=>by simp at hn;subst hn;exact h1⟩,rfl⟩ ?_ ?_
 ·exact wks [.inl 0]
 ·rintro ⟨i,S⟩ ⟨k1,k2,k3⟩;dsimp only at k1 k2 k3 ⊢;have hSl:=k2.len;have hli:(zcp S).length=S.length:=We ..;by_cases h:i<S.length
  ·have g0:=zah S i h;obtain ⟨hm,hino⟩:=qY (k2.has S[i] (Wz h));push_cast [hli,h,g0]
   repeat refine an ?_
   refine cl (Jt f S[i] (by omega)) ?_;push_cast;rw[show f.xs.length+1-i=(f.xs.length+1-(i+1))+1 by omega,Zo,Wa h]at k3;dsimp only at k3;generalize zf S[i] f.xs=x at hm hino k3;have hx40:=(hf.node x hm).1;have hle:(zO x.es).length=x.es.length:=We ..;refine loop (fun k:Nat=>⟨[(1,.ptr 0 0),(3,.own 0 3 1 (zcp (HF S (x.es.take k)))),(4,.sc (.int .i64 i)),(5,.ptr 1 0),(7,.sc (.int .i64 k))],[fsC f,Yw x],1,0⟩) (fun k=>k<=x.es.length/\Y5 f.xs (HF S (x.es.take k))) (fun k=>x.es.length-k) 0 ⟨Wd _,k2⟩ ?_ ?_
   ·exact wks [.inl 0] (by push_cast [ze,zd,CLe,zh,Ow,HF,BP])
   ·rintro k ⟨hk0,k4⟩;by_cases hk:k<x.es.length
    ·have g2:=Yg x.es k hk;have hT:=k4.len;have ht:=zgB (S:=S) hk;have hhas:zk x.es[k].ino f.xs=true:=h3 x hm _ (Wz hk);have k5:=k4.one hhas;rw[←ht]at k5;generalize hT1:HF S (x.es.take (k+1))=T1 at ht k5;generalize HF S (x.es.take k)=T at k4 hT ht;have hlT:(zcp T).length=T.length:=We ..;generalize hn:x.es[k].ino=n at g2 ht;push_cast [hle,hk];refine loop (fun j:Nat=>⟨[(1,.ptr 0 0),(3,.own 0 3 1 (zcp T)),(4,.sc (.int .i64 i)),(5,.ptr 1 0),(7,.sc (.int .i64 k)),(8,.sc (.bool ((T.take j).any fun m=>decide (m=n)))),(9,.sc (.int .i64 j))],[fsC f,Yw x],1,0⟩) (fun j=>j<=T.length) (fun j=>T.length-j) 0 (Wd _) ?_ ?_
     ·exact wks [.inl 0] (by push_cast [ze,zd,CLe,zh,Ow,BK])
     ·intro j hj0;by_cases hj:j<T.length
      ·have g3:=zah T j hj;have ha:=zfS (n:=n) hj;by_cases hq:((T.take j).any fun m=>decide (m=n))=true
       ·rw[hq,BL]at ha;push_cast [hlT,hj,hq]
        repeat refine an ?_
        exact ⟨j+1,hj,by omega,wks [.inl 0] (by push_cast [ze,zd,CLe,zh,ha])⟩
       ·have hq:=Oq.2 hq;rw[hq,OZ]at ha;push_cast [hlT,hj,hq,g3,g2,hn]
        repeat refine an ?_
        exact ⟨j+1,hj,by omega,wks [.inl 0] (by push_cast [ze,zd,CLe,zh,ha])⟩
      ·have hTj:(T.take j)=T:=Wg (by omega);have hany:=zmA (S:=T) (n:=n);unfold Y0 at ht;by_cases hin:n∈T
       ·rw[if_pos hin]at ht;rw[Wl hin]at hany;push_cast [hlT,hj,hTj,hany]
        repeat refine an ?_
        exact ⟨k+1,⟨hk,by rw[hT1];exact k5⟩,by omega,wks [.inl 0] (by push_cast [ze,zd,CLe,zh,hT1,ht])⟩
       ·rw[if_neg hin]at ht;rw[Wi hin]at hany;push_cast [hlT,hj,hTj,hany,g2,hn]
        repeat refine an ?_
        exact ⟨k+1,⟨hk,by rw[hT1];exact k5⟩,by omega,wks [.inl 0] (by push_cast [ze,zd,CLe,zh,hT1,ht,W5])⟩
    ·have hkk:x.es.take k=x.es:=Wg (by omega);rw[hkk]at k4;have hge:i+1<=(HF S x.es).length:=WN h (zh0 S x.es);push_cast [hle,hk,hkk]
     repeat refine an ?_
     exact ⟨(i+1,HF S x.es),⟨hge,k4,k3⟩,by dsimp only;omega,wks [.inl 0]⟩
  ·push_cast [hli,h];have hfin:Zo f.xs (f.xs.length+1-i) i S=S:=by
    rw[show f.xs.length+1-i=(f.xs.length-i)+1 by omega,Zo,WY (by omega)]
   rw[hfin]at k3;have hn:Zd f↔S.length=f.xs.length:=by unfold Zd;rw[←k3]
   exact dn (by push_cast [ze,zd,CLe,zh,hn,hll])
end
end
section
open CA CB
open Go.RowKit
def Xp (es:List zN):Prop:=∀ i (h:i<es.length),may es[i].name=true/\1<=es[i].ino/\(0<i->Op.bytesLess es[i-1].name es[i].name=true)
instance (es:List zN):Decidable (Xp es):=by unfold Xp;infer_instance
def Xa (x:zl):Prop:=(x.kind=1∨x.kind=2∨x.kind=3)/\(x.kind≠2->x.es = []/\x.parent=0)/\(x.kind=2->x.data = []/\Xp x.es)/\(x.kind=3->1<=x.data.length/\x.data.length<=4095/\∀ b∈x.data,b≠0)
instance (x:zl):Decidable (Xa x):=by unfold Xa;infer_instance
def Xb (f:FsV):Prop:=∀ x∈f.xs,Xa x
instance (f:FsV):Decidable (Xb f):=by unfold Xb;infer_instance
def JO (f:FsV):Int:=if JM f then if Xb f then if Y7 f then if Y9 f then if Zd f then if HU f then 0 else 6 else 5 else 4 else 3 else 2 else 1
def okV (f:FsV):Prop:=HS f.xs/\JO f=0
instance (f:FsV):Decidable (okV f):=by unfold okV;infer_instance
theorem zeQ (es:List zN) (hl:es.length<=100000) (hn:∀ e∈es,e.name.length<=1000000):Fun Tryz.prog G0 188 [.sl 2 (zO es)] (jb (decide (Xp es))) 0:=by
 have hle:(zO es).length=es.length:=We ..;refine fon Tryz.func188 ?_;dsimp only[Tryz.f188];push_cast;refine loop (fun i:Nat=>⟨[(0,.sl 2 (zO es)),(3,.sc (.int .i64 i))],[],0,0⟩) (fun i=>i<=es.length/\∀ j (h:j<es.length),j<i->may es[j].name=true/\1<=es[j].ino/\(0<j->Op.bytesLess es[j-1].name es[j].name=true)) (fun i=>es.length-i) 0 ⟨Wd _,fun j h h'=>absurd h' (Oe _)⟩ ?_ ?_
 ·exact wk
 ·rintro i ⟨h1,h2⟩;by_cases h:i<es.length
  ·have g1:=Yg es i h;have hm:=Gi es[i].name (by have:=hn _ (Wz h);omega);push_cast [hle,h,g1]
   repeat refine an ?_
   cases c1:may es[i].name with
   | false =>
    have hno:¬Xp es:=fun hr=>by have:=(hr i h).1;rw[c1]at this;cases this
    refine cl hm ?_;push_cast [c1];exact dn (by push_cast [ze,zd,CLe,zh,hno])
   | true =>
    by_cases c2:es[i].ino<1
    ·have hno:¬Xp es:=fun hr=>by have:=(hr i h).2.1;omega
     refine cl hm ?_;push_cast [c1,g1,c2]
     repeat refine an ?_
     exact dn (by push_cast [ze,zd,CLe,zh,hno])
    ·have step:(0<i->Op.bytesLess es[i-1].name es[i].name=true)->∀ j (h:j<es.length),j<i+1->may es[j].name=true/\1<=es[j].ino/\(0<j->Op.bytesLess es[j-1].name es[j].name=true):=fun hb j hj hlt=>by
      rcases Wp j i with q | q
      ·exact h2 j hj q
      ·have:j=i:=by omega
       subst this;exact ⟨c1,by omega,hb⟩
     by_cases c3:0<i
     ·have g2:=Yg es (i-1) (by omega);have e1:(i:Int)-1=((i-1:Nat):Int):=by omega
      cases c4:Op.bytesLess es[i-1].name es[i].name with
      | true =>
       refine cl hm ?_;push_cast [c1,g1,c2]
       repeat refine an ?_
       push_cast [c3,e1,g2,g1,c4]
       repeat refine an ?_
       exact ⟨i+1,⟨h,step fun _=>c4⟩,by omega,wk⟩
      | false =>
       have hno:¬Xp es:=fun hr=>by have:=(hr i h).2.2 c3;rw[c4]at this;cases this
       refine cl hm ?_;push_cast [c1,g1,c2]
       repeat refine an ?_
       push_cast [c3,e1,g2,g1,c4]
       repeat refine an ?_
       exact dn (by push_cast [ze,zd,CLe,zh,hno])
     ·refine cl hm ?_;push_cast [c1,g1,c2]
      repeat refine an ?_
      push_cast [c3]
      repeat refine an ?_
      exact ⟨i+1,⟨h,step fun h=>absurd h c3⟩,by omega,wk⟩
  ·have hr:Xp es:=fun j hj=>h2 j hj (by omega);push_cast [hle,h];exact dn (by push_cast [ze,zd,CLe,zh,hr])
end
section
open CA CB
open Go.RowKit
theorem Gz (f:FsV) (hf:FsS f):Fun Tryz.prog G0 154 [.agg (fsC f)] (jb (decide (Xb f))) 0:=by
 have hll:(zt f.xs).length=f.xs.length:=We ..;have h40:=hf.len;refine fon Tryz.func154 ?_;dsimp only[Tryz.f154];push_cast;refine loop (fun i:Nat=>⟨[(1,.ptr 0 0),(3,.sc (.int .i64 i))],[fsC f],0,0⟩) (fun i=>i<=f.xs.length/\∀ x∈f.xs.take i,Xa x) (fun i=>f.xs.length-i) 0 ⟨Wd _,fun x hx=>by simp at hx⟩ ?_ ?_
 ·exact wk
 ·rintro i ⟨h1,h2⟩;by_cases h:i<f.xs.length
  case neg =>
   rw[Wg (by omega)]at h2;have hn:Xb f:=h2;push_cast [hll,h];exact dn (by push_cast [ze,zd,CLe,zh,hn])
  have g1:=ju f.xs i h;have hbad:¬Xa f.xs[i]->¬Xb f:=fun hn h'=>hn (h' _ (Wz h));have hs:=hf.node _ (Wz h);have step:Xa f.xs[i]->∀ x∈f.xs.take (i+1),Xa x:=fun hq=>qp h h2 hq;push_cast [hll,h,g1]
  repeat refine an ?_
  generalize f.xs[i]=x at g1 hbad hs step;have hle:(zO x.es).length=x.es.length:=We ..;have hent:x.es.length<=10000:=hs.1;by_cases k2:x.kind=2
  ·by_cases d0:x.data = []
   ·have hr:=zeQ x.es (by omega) fun e he=>by have:=hs.2.2 e he;omega
    cases c1:decide (Xp x.es) with
    | false =>
     have hn:=hbad fun hq=>OK c1 (hq.2.2.1 k2).2;push_cast [k2,d0];refine cl hr ?_;push_cast [c1];exact dn (by push_cast [ze,zd,CLe,zh,hn])
    | true =>
     have hq:Xa x:=⟨.inr (.inl k2),fun h=>absurd k2 h,fun _=>⟨d0,WP c1⟩,fun h=>by omega⟩;push_cast [k2,d0];refine cl hr ?_;push_cast [c1,k2];refine loop (fun j:Nat=>⟨[(1,.ptr 0 0),(3,.sc (.int .i64 i)),(4,.ptr 1 0),(5,.sc (.int .i64 j))],[fsC f,Yw x],0,0⟩) (fun j=>j=0) (fun j=>0) 0 rfl ?_ ?_
     ·exact wk (by push_cast [ze,zd,CLe,zh,k2,d0]) (by push_cast [ze,zd,CLe,zh,k2,d0])
     ·rintro j rfl;push_cast [d0]
      repeat refine an ?_
      exact ⟨i+1,⟨h,step hq⟩,by omega,wk⟩
   ·have hn:=hbad fun hq=>d0 (hq.2.2.1 k2).1;push_cast [k2,d0];exact dn (by push_cast [ze,zd,CLe,zh,hn])
  by_cases e0:x.es = []
  case neg =>
   have hn:=hbad fun hq=>e0 (hq.2.1 k2).1;have hpos:0<(x.es.length:Int):=by have:=WI.2 e0;omega
   by_cases k1:x.kind=1
   ·push_cast [k1,hle,hpos];exact dn (by push_cast [ze,zd,CLe,zh,hn])
   ·by_cases k3:x.kind=3
    ·push_cast [k1,k2,k3,hle,hpos];exact dn (by push_cast [ze,zd,CLe,zh,hn])
    ·have hn:=hbad fun hq=>by rcases hq.1 with q | q | q<;>contradiction
     push_cast [k1,k2,k3];exact dn (by push_cast [ze,zd,CLe,zh,hn])
  have hl0:x.es.length=0:=by rw[e0];rfl
  by_cases p0:x.parent=0
  case neg =>
   have hn:=hbad fun hq=>p0 (hq.2.1 k2).2;by_cases k1:x.kind=1
   ·push_cast [k1,hle,hl0,p0];exact dn (by push_cast [ze,zd,CLe,zh,hn])
   ·by_cases k3:x.kind=3
    ·push_cast [k1,k2,k3,hle,hl0,p0];exact dn (by push_cast [ze,zd,CLe,zh,hn])
    ·have hn:=hbad fun hq=>by rcases hq.1 with q | q | q<;>contradiction
     push_cast [k1,k2,k3];exact dn (by push_cast [ze,zd,CLe,zh,hn])
  by_cases k1:x.kind=1
  ·have hq:Xa x:=⟨.inl k1,fun _=>⟨e0,p0⟩,fun h=>absurd h k2,fun h=>by omega⟩;push_cast [k1,hle,hl0,p0];refine loop (fun j:Nat=>⟨[(1,.ptr 0 0),(3,.sc (.int .i64 i)),(4,.ptr 1 0),(5,.sc (.int .i64 j))],[fsC f,Yw x],0,0⟩) (fun j=>j=0) (fun j=>0) 0 rfl ?_ ?_
   ·exact wk (by push_cast [ze,zd,CLe,zh,k1,p0]) (by push_cast [ze,zd,CLe,zh,k1,p0])
   ·rintro j rfl;by_cases hd:(0:Int)<x.data.length
    ·push_cast [hd,k1]
     repeat refine an ?_
     exact ⟨i+1,⟨h,step hq⟩,by omega,wk⟩
    ·push_cast [hd,k1]
     repeat refine an ?_
     exact ⟨i+1,⟨h,step hq⟩,by omega,wk⟩
  by_cases k3:x.kind=3
  case neg =>
   have hn:=hbad fun hq=>by rcases hq.1 with q | q | q<;>contradiction
   push_cast [k1,k2,k3];exact dn (by push_cast [ze,zd,CLe,zh,hn])
  by_cases l1:(x.data.length:Int)<1
  ·have hn:=hbad fun hq=>by have:=(hq.2.2.2 k3).1;omega
   push_cast [k1,k2,k3,hle,hl0,p0,l1];exact dn (by push_cast [ze,zd,CLe,zh,hn])
  by_cases l2:4095<(x.data.length:Int)
  ·have hn:=hbad fun hq=>by have:=(hq.2.2.2 k3).2.1;omega
   push_cast [k1,k2,k3,hle,hl0,p0,l1,l2];exact dn (by push_cast [ze,zd,CLe,zh,hn])
  push_cast [k1,k2,k3,hle,hl0,p0,l1,l2];refine loop (fun j:Nat=>⟨[(1,.ptr 0 0),(3,.sc (.int .i64 i)),(4,.ptr 1 0),(5,.sc (.int .i64 j))],[fsC f,Yw x],0,0⟩) (fun j=>j<=x.data.length/\∀ b∈x.data.take j,b≠0) (fun j=>x.data.length-j) 0 ⟨Wd _,fun b hb=>by simp at hb⟩ ?_ ?_
  ·exact wk (by push_cast [ze,zd,CLe,zh,k3,p0]) (by push_cast [ze,zd,CLe,zh,k3,p0])
  ·rintro j ⟨j1,j2⟩;by_cases hj:j<x.data.length
   ·have hb:x.data[j]?=some x.data[j]:=Wa hj;by_cases z:(x.data[j].toNat:Int)=0
    ·have hn:=hbad fun hq=>(hq.2.2.2 k3).2.2 _ (Wz hj) (A9.1 (by simpa using z));push_cast [hj,k3,hb,z]
     repeat refine an ?_
     exact dn (by push_cast [ze,zd,CLe,zh,hn])
    ·push_cast [hj,k3,hb,z]
     repeat refine an ?_
     exact ⟨j+1,⟨hj,qp hj j2 fun hz=>z (by rw[hz];rfl)⟩,by omega,wk⟩
   ·rw[Wg (by omega)]at j2;have hq:Xa x:=⟨.inr (.inr k3),fun _=>⟨e0,p0⟩,fun h=>absurd h k2,fun _=>⟨by omega,by omega,j2⟩⟩;push_cast [hj,k3]
    repeat refine an ?_
    exact ⟨i+1,⟨h,step hq⟩,by omega,wk⟩
theorem ze8 (f:FsV) (hf:FsS f):Fun Tryz.prog G0 107 [.agg (fsC f)] (.sc (.int .i64 (JO f))) 0:=by
 have h40:=hf.len;have hb:z8 f.xs<=100000000:=by have:=hf.bytes;omega
 refine fon Tryz.func107 ?_;dsimp only[Tryz.f107];push_cast;by_cases c1:JM f
 case neg =>
  refine cl (yk f (by omega)) ?_;push_cast [Wi c1];exact dn (by push_cast [ze,zd,CLe,zh,JO,c1])
 refine cl (yk f (by omega)) ?_;push_cast [Wl c1];by_cases c2:Xb f
 case neg =>
  refine cl (Gz f hf) ?_;push_cast [Wi c2];exact dn (by push_cast [ze,zd,CLe,zh,JO,c1,c2])
 refine cl (Gz f hf) ?_;push_cast [Wl c2];by_cases c3:Y7 f
 case neg =>
  refine cl (xI f hf) ?_;push_cast [Wi c3];exact dn (by push_cast [ze,zd,CLe,zh,JO,c1,c2,c3])
 refine cl (xI f hf) ?_;push_cast [Wl c3];by_cases c4:Y9 f
 case neg =>
  refine cl (H7 f hf) ?_;push_cast [Wi c4];exact dn (by push_cast [ze,zd,CLe,zh,JO,c1,c2,c3,c4])
 refine cl (H7 f hf) ?_;push_cast [Wl c4];by_cases c5:Zd f
 case neg =>
  refine cl (yn f hf c3 c1.2.2.2.2.2.2.2.1) ?_;push_cast [Wi c5];exact dn (by push_cast [ze,zd,CLe,zh,JO,c1,c2,c3,c4,c5])
 refine cl (yn f hf c3 c1.2.2.2.2.2.2.2.1) ?_;push_cast [Wl c5];by_cases c6:HU f
 case neg =>
  refine cl (za9 f hf hb) ?_;push_cast [Wi c6];exact dn (by push_cast [ze,zd,CLe,zh,JO,c1,c2,c3,c4,c5,c6])
 refine cl (za9 f hf hb) ?_;push_cast [Wl c6];exact dn (by push_cast [ze,zd,CLe,zh,JO,c1,c2,c3,c4,c5,c6])
end
section
open CA CB
open Go.RowKit
def jV (x:zl) (k:zV):Bool:=decide (k.ino=x.ino)&&!k.content
def qO (w:qH) (x:zl):Prop:=zk x.ino w.fs.xs=false/\1<=x.ino/\x.ino<w.fs.next/\x.links=0/\x.parent=0/\x.es = []/\(x.kind=1∨x.kind=2∨x.kind=3)/\(x.kind=2->x.data = [])/\(x.kind=3->1<=x.data.length/\x.data.length<=4095/\∀ b∈x.data,b≠0)/\w.kept.any (jV x)=true
instance (w:qH) (x:zl):Decidable (qO w x):=by unfold qO;infer_instance
theorem zrC {α:Type} {P:α->Bool} {l:List α} (h:k<l.length):(l.take (k+1)).any P=((l.take k).any P||P l[k]):=by
 rw[WZ,Wa h,BF];simp
theorem zcJ (w:qH) (x:zl) (hl:w.fs.xs.length<=100000) (hk:w.kept.length<=100000) (he:x.es.length<=100000) (hd:x.data.length<=100000):Fun Tryz.prog G0 109 [Xm w,.agg (Yw x)] (jb (decide (qO w x))) 0:=by
 have hg:=Jt (G:=G0) w.fs x.ino hl;have hkl:(zJ w.kept).length=w.kept.length:=We ..;have hle:(zO x.es).length=x.es.length:=We ..;by_cases c1:zk x.ino w.fs.xs=true
 ·have hn:¬qO w x:=fun h=>by have:=h.1;rw[c1]at this;cases this
  rw[c1]at hg;refine fon Tryz.func109 ?_;dsimp only[Tryz.f109];push_cast;refine cl hg ?_;push_cast;exact dn (by push_cast [ze,zd,CLe,zh,hn])
 have c1:=Oq.2 c1;rw[c1]at hg;by_cases c2:x.ino<1
 case pos =>
  have hn:¬qO w x:=fun h=>by have:=h.2.1;omega
  refine fon Tryz.func109 ?_;dsimp only[Tryz.f109];push_cast;refine cl hg ?_;push_cast [hle,c2];exact dn (by push_cast [ze,zd,CLe,zh,hn])
 by_cases c3:w.fs.next<=x.ino
 case pos =>
  have hn:¬qO w x:=fun h=>by have:=h.2.2.1;omega
  refine fon Tryz.func109 ?_;dsimp only[Tryz.f109];push_cast;refine cl hg ?_;push_cast [hle,c2,c3];exact dn (by push_cast [ze,zd,CLe,zh,hn])
 by_cases c4:x.links=0
 case neg =>
  have hn:¬qO w x:=fun h=>c4 h.2.2.2.1;refine fon Tryz.func109 ?_;dsimp only[Tryz.f109];push_cast;refine cl hg ?_;push_cast [hle,c2,c3,c4];exact dn (by push_cast [ze,zd,CLe,zh,hn])
 by_cases c5:x.parent=0
 case neg =>
  have hn:¬qO w x:=fun h=>c5 h.2.2.2.2.1;refine fon Tryz.func109 ?_;dsimp only[Tryz.f109];push_cast;refine cl hg ?_;push_cast [hle,c2,c3,c4,c5];exact dn (by push_cast [ze,zd,CLe,zh,hn])
 by_cases c6:(x.es.length:Int)=0
 case neg =>
  have hn:¬qO w x:=fun h=>c6 (by rw[h.2.2.2.2.2.1];rfl);refine fon Tryz.func109 ?_;dsimp only[Tryz.f109];push_cast;refine cl hg ?_;push_cast [hle,c2,c3,c4,c5,c6];exact dn (by push_cast [ze,zd,CLe,zh,hn])
 by_cases c7:x.kind<1
 case pos =>
  have hn:¬qO w x:=fun h=>by have:=h.2.2.2.2.2.2.1;omega
  refine fon Tryz.func109 ?_;dsimp only[Tryz.f109];push_cast;refine cl hg ?_;push_cast [hle,c2,c3,c4,c5,c6,c7];exact dn (by push_cast [ze,zd,CLe,zh,hn])
 by_cases c8:3<x.kind
 case pos =>
  have hn:¬qO w x:=fun h=>by have:=h.2.2.2.2.2.2.1;omega
  refine fon Tryz.func109 ?_;dsimp only[Tryz.f109];push_cast;refine cl hg ?_;push_cast [hle,c2,c3,c4,c5,c6,c7,c8];exact dn (by push_cast [ze,zd,CLe,zh,hn])
 have hes:x.es = []:=WV (by omega);have hkd:x.kind=1∨x.kind=2∨x.kind=3:=by omega
 have key:(x.kind=2->x.data = [])->(x.kind=3->1<=x.data.length/\x.data.length<=4095/\∀ b∈x.data,b≠0)->decide (qO w x)=w.kept.any (jV x):=fun q1 q2=>by
  cases hn:w.kept.any (jV x) with
  | true=>exact Wl ⟨c1,by omega,by omega,c4,c5,hes,hkd,q1,q2,hn⟩
  | false=>exact Wi fun h=>by have:=h.2.2.2.2.2.2.2.2.2;rw[hn]at this;cases this
 by_cases k2:x.kind=2
 ·by_cases d0:x.data = []
  ·have hdl:((0:Int)<x.data.length)=False:=WG (by rw[d0];simp);refine fon Tryz.func109 ?_;dsimp only[Tryz.f109];push_cast;refine cl hg ?_;push_cast [hle,c2,c3,c4,c5,c6,c7,c8,k2,d0,hdl];refine loop (fun j:Nat=>⟨[(2,.ptr 0 0),(3,.ptr 1 0),(7,.sc (.int .i64 j))],[N8 w,Yw x],0,0⟩) (fun j=>j=0) (fun j=>0) 0 rfl ?_ ?_
   ·exact wk (h5:=by push_cast [ze,zd,CLe,zh,k2,d0,c4,c5])
   ·rintro j rfl;push_cast [hdl,d0];refine loop (fun i:Nat=>⟨[(2,.ptr 0 0),(3,.ptr 1 0),(8,.sc (.bool ((w.kept.take i).any (jV x)))),(9,.sc (.int .i64 i))],[N8 w,Yw x],0,0⟩) (fun i=>i<=w.kept.length) (fun i=>w.kept.length-i) 0 (Wd _) ?_ ?_
    ·exact wk (by push_cast [ze,zd,CLe,zh,Ow,BK])
    ·intro i hi;by_cases h:i<w.kept.length
     ·have g:=J2 w.kept i h;have ha:=zrC (P:=jV x) h;have hp:jV x w.kept[i]=(decide (w.kept[i].ino=x.ino)&&!w.kept[i].content):=rfl;by_cases hn:((w.kept.take i).any (jV x))=true
      ·rw[hn,BL]at ha;push_cast [hkl,h,hn]
       repeat refine an ?_
       exact ⟨i+1,h,by omega,wk (by push_cast [ze,zd,CLe,zh,ha])⟩
      ·have hn:=Oq.2 hn;rw[hn,OZ,hp]at ha;by_cases he:w.kept[i].ino=x.ino
       ·rw[Wl he,Oj]at ha;push_cast [hkl,h,hn,g,he]
        repeat refine an ?_
        exact ⟨i+1,h,by omega,wk (by push_cast [ze,zd,CLe,zh,ha])⟩
       ·rw[Wi he,W6]at ha;push_cast [hkl,h,hn,g,he]
        repeat refine an ?_
        exact ⟨i+1,h,by omega,wk (by push_cast [ze,zd,CLe,zh,ha])⟩
     ·rw[Wg (by omega)];have hd:decide (qO w x)=w.kept.any (jV x):=key (fun _=>d0) (fun h=>by omega);push_cast [hkl,h];exact dn (by push_cast [ze,zd,CLe,zh,hd])
  ·have hn:¬qO w x:=fun h=>d0 (h.2.2.2.2.2.2.2.1 k2);refine fon Tryz.func109 ?_;dsimp only[Tryz.f109];push_cast;refine cl hg ?_;push_cast [hle,c2,c3,c4,c5,c6,c7,c8,k2,d0];exact dn (by push_cast [ze,zd,CLe,zh,hn])
 by_cases k3:x.kind=3
 ·by_cases l1:(x.data.length:Int)<1
  ·have hn:¬qO w x:=fun h=>by have:=(h.2.2.2.2.2.2.2.2.1 k3).1;omega
   refine fon Tryz.func109 ?_;dsimp only[Tryz.f109];push_cast;refine cl hg ?_;push_cast [hle,c2,c3,c4,c5,c6,c7,c8,k2,k3,l1];exact dn (by push_cast [ze,zd,CLe,zh,hn])
  by_cases l2:4095<(x.data.length:Int)
  ·have hn:¬qO w x:=fun h=>by have:=(h.2.2.2.2.2.2.2.2.1 k3).2.1;omega
   refine fon Tryz.func109 ?_;dsimp only[Tryz.f109];push_cast;refine cl hg ?_;push_cast [hle,c2,c3,c4,c5,c6,c7,c8,k2,k3,l1,l2];exact dn (by push_cast [ze,zd,CLe,zh,hn])
  refine fon Tryz.func109 ?_;dsimp only[Tryz.f109];push_cast;refine cl hg ?_;push_cast [hle,c2,c3,c4,c5,c6,c7,c8,k2,k3,l1,l2];refine loop (fun j:Nat=>⟨[(2,.ptr 0 0),(3,.ptr 1 0),(7,.sc (.int .i64 j))],[N8 w,Yw x],0,0⟩) (fun j=>j<=x.data.length/\∀ b∈x.data.take j,b≠0) (fun j=>x.data.length-j) 0 ⟨Wd _,fun b hb=>by simp at hb⟩ ?_ ?_
  ·exact wk (h5:=by push_cast [ze,zd,CLe,zh,k3,c4,c5])
  ·rintro j ⟨j1,j2⟩;by_cases hj:j<x.data.length
   ·have hb:x.data[j]?=some x.data[j]:=Wa hj;by_cases z:(x.data[j].toNat:Int)=0
    ·have hn:¬qO w x:=fun h=>(h.2.2.2.2.2.2.2.2.1 k3).2.2 _ (Wz hj) (A9.1 (by simpa using z));push_cast [hj,k3,hb,z]
     repeat refine an ?_
     exact dn (by push_cast [ze,zd,CLe,zh,hn])
    ·push_cast [hj,k3,hb,z]
     repeat refine an ?_
     exact ⟨j+1,⟨hj,qp hj j2 fun hz=>z (by rw[hz];rfl)⟩,by omega,wk⟩
   ·rw[Wg (by omega)]at j2;push_cast [hj,k3];refine loop (fun i:Nat=>⟨[(2,.ptr 0 0),(3,.ptr 1 0),(8,.sc (.bool ((w.kept.take i).any (jV x)))),(9,.sc (.int .i64 i))],[N8 w,Yw x],0,0⟩) (fun i=>i<=w.kept.length) (fun i=>w.kept.length-i) 0 (Wd _) ?_ ?_
    ·exact wk (by push_cast [ze,zd,CLe,zh,Ow,BK])
    ·intro i hi;by_cases h:i<w.kept.length
     ·have g:=J2 w.kept i h;have ha:=zrC (P:=jV x) h;have hp:jV x w.kept[i]=(decide (w.kept[i].ino=x.ino)&&!w.kept[i].content):=rfl;by_cases hn:((w.kept.take i).any (jV x))=true
      ·rw[hn,BL]at ha;push_cast [hkl,h,hn]
       repeat refine an ?_
       exact ⟨i+1,h,by omega,wk (by push_cast [ze,zd,CLe,zh,ha])⟩
      ·have hn:=Oq.2 hn;rw[hn,OZ,hp]at ha;by_cases he:w.kept[i].ino=x.ino
       ·rw[Wl he,Oj]at ha;push_cast [hkl,h,hn,g,he]
        repeat refine an ?_
        exact ⟨i+1,h,by omega,wk (by push_cast [ze,zd,CLe,zh,ha])⟩
       ·rw[Wi he,W6]at ha;push_cast [hkl,h,hn,g,he]
        repeat refine an ?_
        exact ⟨i+1,h,by omega,wk (by push_cast [ze,zd,CLe,zh,ha])⟩
     ·rw[Wg (by omega)];have hd:decide (qO w x)=w.kept.any (jV x):=key (fun h=>absurd h k2) (fun _=>⟨by omega,by omega,j2⟩);push_cast [hkl,h];exact dn (by push_cast [ze,zd,CLe,zh,hd])
 ·have k1:x.kind=1:=by omega
  refine fon Tryz.func109 ?_;dsimp only[Tryz.f109];push_cast;refine cl hg ?_;push_cast [hle,c2,c3,c4,c5,c6,c7,c8,k2,k3];refine loop (fun j:Nat=>⟨[(2,.ptr 0 0),(3,.ptr 1 0),(7,.sc (.int .i64 j))],[N8 w,Yw x],0,0⟩) (fun j=>j=0) (fun j=>0) 0 rfl ?_ ?_
  ·exact wk (h5:=by push_cast [ze,zd,CLe,zh,c4,c5])
  ·rintro j rfl;by_cases hd0:(0:Int)<x.data.length
   ·push_cast [hd0,k3];refine loop (fun i:Nat=>⟨[(2,.ptr 0 0),(3,.ptr 1 0),(8,.sc (.bool ((w.kept.take i).any (jV x)))),(9,.sc (.int .i64 i))],[N8 w,Yw x],0,0⟩) (fun i=>i<=w.kept.length) (fun i=>w.kept.length-i) 0 (Wd _) ?_ ?_
    ·exact wk (by push_cast [ze,zd,CLe,zh,Ow,BK])
    ·intro i hi;by_cases h:i<w.kept.length
     ·have g:=J2 w.kept i h;have ha:=zrC (P:=jV x) h;have hp:jV x w.kept[i]=(decide (w.kept[i].ino=x.ino)&&!w.kept[i].content):=rfl;by_cases hn:((w.kept.take i).any (jV x))=true
      ·rw[hn,BL]at ha;push_cast [hkl,h,hn]
       repeat refine an ?_
       exact ⟨i+1,h,by omega,wk (by push_cast [ze,zd,CLe,zh,ha])⟩
      ·have hn:=Oq.2 hn;rw[hn,OZ,hp]at ha;by_cases he:w.kept[i].ino=x.ino
       ·rw[Wl he,Oj]at ha;push_cast [hkl,h,hn,g,he]
        repeat refine an ?_
        exact ⟨i+1,h,by omega,wk (by push_cast [ze,zd,CLe,zh,ha])⟩
       ·rw[Wi he,W6]at ha;push_cast [hkl,h,hn,g,he]
        repeat refine an ?_
        exact ⟨i+1,h,by omega,wk (by push_cast [ze,zd,CLe,zh,ha])⟩
     ·rw[Wg (by omega)];have hd:decide (qO w x)=w.kept.any (jV x):=key (fun h=>absurd h k2) (fun h=>absurd h k3);push_cast [hkl,h];exact dn (by push_cast [ze,zd,CLe,zh,hd])
   ·push_cast [hd0,k3];refine loop (fun i:Nat=>⟨[(2,.ptr 0 0),(3,.ptr 1 0),(8,.sc (.bool ((w.kept.take i).any (jV x)))),(9,.sc (.int .i64 i))],[N8 w,Yw x],0,0⟩) (fun i=>i<=w.kept.length) (fun i=>w.kept.length-i) 0 (Wd _) ?_ ?_
    ·exact wk (by push_cast [ze,zd,CLe,zh,Ow,BK])
    ·intro i hi;by_cases h:i<w.kept.length
     ·have g:=J2 w.kept i h;have ha:=zrC (P:=jV x) h;have hp:jV x w.kept[i]=(decide (w.kept[i].ino=x.ino)&&!w.kept[i].content):=rfl;by_cases hn:((w.kept.take i).any (jV x))=true
      ·rw[hn,BL]at ha;push_cast [hkl,h,hn]
       repeat refine an ?_
       exact ⟨i+1,h,by omega,wk (by push_cast [ze,zd,CLe,zh,ha])⟩
      ·have hn:=Oq.2 hn;rw[hn,OZ,hp]at ha;by_cases he:w.kept[i].ino=x.ino
       ·rw[Wl he,Oj]at ha;push_cast [hkl,h,hn,g,he]
        repeat refine an ?_
        exact ⟨i+1,h,by omega,wk (by push_cast [ze,zd,CLe,zh,ha])⟩
       ·rw[Wi he,W6]at ha;push_cast [hkl,h,hn,g,he]
        repeat refine an ?_
        exact ⟨i+1,h,by omega,wk (by push_cast [ze,zd,CLe,zh,ha])⟩
     ·rw[Wg (by omega)];have hd:decide (qO w x)=w.kept.any (jV x):=key (fun h=>absurd h k2) (fun h=>absurd h k3);push_cast [hkl,h];exact dn (by push_cast [ze,zd,CLe,zh,hd])
end
end Go.Proofs.YtnpdbhbmakdklaaGreatDoor.Vcg
