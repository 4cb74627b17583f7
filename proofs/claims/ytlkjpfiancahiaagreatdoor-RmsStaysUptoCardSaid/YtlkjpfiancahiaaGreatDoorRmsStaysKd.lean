/- What the proof of RmsStays leans on, part 4: Path5 Ref3 PathLaw Open Laid Op1 QuotePlain QuotePlain2 QuotePlain3 OpV Op2 Wld0 Ent1 Ent2 EntW TabW Wld1 Wld2 Wld3 Wld4 Wld5 Room Plc Crt Drp Mov SlcK Sts OpenW StW Sts2 StX Kep Stp Stp2 Stp3 Stp4 Deed Doo Dra1 Dra2 Rf4 Rf5 Rf6 Rf7 Op3 Op4 Op5 Ref19 Rf8 Snd2 Snd3 Snd4 Snd5 Snd6 Snd7 Rf9 Rf10 Grw Con Kit KitBytes QuoteWalk1 Builder QuoteWalk2 Diag1 Spl Diag2 Diag3 Diag4 Dra3 Ref19b. No condition beyond what each theorem states. -/
import Derived.Test.YtlkjpfiancahiaaGreatDoorRmsStaysKc
import Derived.ProofKit
import Derived.Deep.Slices
import Derived.Deep.Fields
import Derived.ChangeSame
import Derived.ChangeOld
import Derived.Lib.SmallJoins
import Derived.Lib.LaidU8
import Derived.OpenShut
import Derived.FnData
import Derived.Lib.Bytealg
import Derived.WalkKit
import Derived.Lib.Hide
import Derived.Lib.Join
import Derived.Deep.Draws
import Derived.Lib.SlBytesRow
import Derived.StillTailTactics
import Derived.Test.YtlkjpfiancahiaaGreatDoorProg
import Derived.WalkLawsBesides
import Derived.WalkSpells
import Derived.Shelf.Strings.Builder1
import Derived.Shelf.Strings.BuilderF
import Derived.Shelf.Strings.SlTrimAscii
set_option linter.unusedVariables false
set_option linter.unusedSimpArgs false
set_option linter.unusedSectionVars false
set_option maxRecDepth 100000
set_option maxHeartbeats 4000000
namespace Go.Proofs.YtlkjpfiancahiaaGreatDoor.Vcg
section
open Go.RowKit
def zcE (xs:List (List UInt8)):Int:=match xs.findIdx? (fun x=>!may x) with | some i=>(i:Int) | none=>-1
theorem zil (xs:List (List UInt8)):decide (0<=zcE xs) = !xs.all may:=by
 unfold zcE
 cases h:xs.findIdx? (fun x=>!may x) with
 | none =>
  have:=List.findIdx?_eq_none_iff.1 h
  have h2:xs.all may=true:=List.all_eq_true.2 fun x hx=>by simpa using this x hx
  rw[h2];rfl
 | some i =>
  have h1:=List.findIdx?_eq_some_iff_getElem.1 h
  obtain ⟨hi,hp,_⟩:=h1
  have h2:xs.all may=false:=List.all_eq_false.2 ⟨xs[i],List.getElem_mem hi,by simpa using hp⟩
  rw[h2];simp
theorem H3 (xs:List (List UInt8)) (hx:xs.length<=1000001) (hl:∀ x∈xs,x.length<=1000000):Fun Tryz.prog G0 261 [.sl 1 (zQ xs),.clo (.func 238) [] []] (.sc (.int .i64 (zcE xs))) 0:=by
 refine fon Tryz.func261 ?_;dsimp only[Tryz.f261]
 push_cast -dsimp
 refine loop (fun k:Nat=>⟨[(0,.sl 1 (zQ xs)),(1,.clo (.func 238) [] []),(7,.sc (.int .i64 (xs.length:Int))),(8,.sc (.int .i64 k))],[],0,0⟩) (fun k=>k<=xs.length/\∀ j (hj:j<xs.length),j<k->may (xs[j]'hj)=true) (fun k=>xs.length-k) 0 ⟨Nat.zero_le _,fun j _ hj=>by omega⟩ ?_ ?_
 ·exact wk
 ·intro k hk
  have hk1:=hk.1
  have hk2:=hk.2
  by_cases h:k<xs.length
  ·have hg:(zQ xs)[k]?=some [.str (xs[k]'h)]:=by rw[strs_get?,List.getElem?_eq_getElem h];rfl
   push_cast -dsimp [h,hg]
   refine ⟨by omega,?_⟩
   refine call (zae (xs[k]'h) (hl _ (List.getElem_mem h))) ?_
   push_cast -dsimp
   cases hm:may (xs[k]'h) with
   | true =>
    push_cast -dsimp
    refine ⟨by omega,k+1,⟨by omega,fun j hj hjk=>?_⟩,by omega,wk⟩
    rcases Nat.lt_or_ge j k with g | g
    ·exact hk2 j hj g
    ·have:j=k:=by omega
     subst this;exact hm
   | false =>
    push_cast -dsimp
    refine ⟨[],rfl,rfl,?_⟩
    push_cast -dsimp [zb,za,CLe,zd]
    have:xs.findIdx? (fun x=>!may x)=some k:=List.findIdx?_eq_some_iff_getElem.2 ⟨h,by simp[hm],fun j hj=>by simp[hk2 j (by omega) hj]⟩
    simp[zcE,this]
  ·push_cast -dsimp [h]
   refine ⟨[],rfl,rfl,?_⟩
   push_cast -dsimp [zb,za,CLe,zd]
   have:xs.findIdx? (fun x=>!may x)=none:=List.findIdx?_eq_none_iff.2 fun x hx=>by
    obtain ⟨j,hj,rfl⟩:=List.getElem_of_mem hx
    simp[hk2 j hj (by omega)]
   simp[zcE,this]
theorem Vj (xs:List (List UInt8)) (hx:xs.length<=1000001) (hl:∀ x∈xs,x.length<=1000000):Fun Tryz.prog G0 237 [.sl 1 (zQ xs),.clo (.func 238) [] []] (qy (!xs.all may)) 0:=by
 have h:=zil xs
 refine fon Tryz.func237 ?_;dsimp only[Tryz.f237]
 push_cast -dsimp
 refine call (H3 xs hx hl) ?_
 push_cast -dsimp
 exact dn (by push_cast -dsimp [zb,za,CLe,zd,h])
def Yc (p:List UInt8):Bool:=decide (zW (zr p)=p)&&(zr p).all may
def Y2 (p:List UInt8):C:=.tup [.own 0 9 1 (zQ (if Yc p then zr p else [])),qy (Yc p)]
theorem jZ (x y:List UInt8) (r:List (List UInt8)) (sep:List UInt8):Lib.join (x :: y :: r) sep=x++sep++Lib.join (y :: r) sep:=by
 simp[Lib.join,List.intercalate,List.intersperse]
theorem YT:∀ xs:List (List UInt8),xs≠[]->(Lib.join xs [47]).length+1=(xs.map fun x=>x.length+1).sum
 | [],h=>absurd rfl h
 | [x],_=>by simp[Lib.join]
 | x :: y :: r,_=>by
  have ih:=YT (y :: r) (by simp)
  rw[jZ]
  simp only[List.length_append,List.length_cons,List.length_nil,List.map_cons,List.sum_cons]at ih ⊢
  omega
theorem xX:∀ l:List UInt8,((jv l).map fun x=>x.length+1).sum=l.length+1
 | []=>rfl
 | b :: l=>by
  have ih:=xX l
  unfold jv
  split
  ·simp only[List.map_cons,List.sum_cons,List.length_nil,List.length_cons,ih];omega
  ·cases h:jv l with
   | nil=>exact absurd h (kf l)
   | cons x r =>
    rw[h]at ih
    simp only[List.map_cons,List.sum_cons,List.length_cons]at ih ⊢
    omega
theorem ZO (f:List UInt8->Bool):∀ xs:List (List UInt8),((xs.filter f).map fun x=>x.length+1).sum<=(xs.map fun x=>x.length+1).sum
 | []=>by simp
 | x :: r=>by
  have ih:=ZO f r
  rw[List.filter_cons]
  split
  ·simp only[List.map_cons,List.sum_cons];omega
  ·simp only[List.map_cons,List.sum_cons];omega
theorem zfg:∀ (xs:List (List UInt8)) (x:List UInt8),x∈xs->x.length+1<=(xs.map fun x=>x.length+1).sum
 | y :: r,x,h=>by
  simp only[List.map_cons,List.sum_cons]
  rcases List.mem_cons.1 h with rfl | h
  ·omega
  ·have:=zfg r x h;omega
theorem N1 (l:List UInt8):(Lib.join (zr l) [47]).length<=l.length/\∀ x∈zr l,x.length<=l.length:=by
 have h1:=xX l
 have h2:=ZO (fun x=>!decide (x = [])) (jv l)
 rw[←jL]at h2
 refine ⟨?_,fun x hx=>?_⟩
 ·by_cases h:zr l = []
  ·rw[h];simp[Lib.join]
  ·have:=YT (zr l) h;omega
 ·have:=zfg (zr l) x hx;omega
theorem GU (p:List UInt8) (hp:p.length<=1000000):Fun Tryz.prog G0 210 [.str p] (Y2 p) 1:=by
 have hz:=qJ p
 have hj:=N1 p
 by_cases h1:zW (zr p)=p
 ·have h1':(p=zW (zr p)):=h1.symm
  refine fon Tryz.func210 ?_;dsimp only[Tryz.f210]
  push_cast -dsimp
  refine call (Ju p) ?_
  push_cast -dsimp
  refine call (Xn p hp) ?_
  push_cast -dsimp
  refine call (Xe (zr p) (by omega) (by omega)) ?_
  push_cast -dsimp [h1]
  refine call (Vj (zr p) (by omega) fun x hx=>by have:=hj.2 x hx;omega) ?_
  push_cast -dsimp
  cases hm:(zr p).all may with
  | true =>
   push_cast -dsimp
   exact ⟨[.inl 0],rfl,rfl,by simp only[Y2,Yc,h1,hm];push_cast -dsimp [zb,za,CLe,zd]<;>simp⟩
  | false =>
   push_cast -dsimp
   exact ⟨[.inr (9,1)],rfl,rfl,by simp only[Y2,Yc,h1,hm];push_cast -dsimp [zb,za,CLe,zd]<;>simp⟩
 ·refine fon Tryz.func210 ?_;dsimp only[Tryz.f210]
  push_cast -dsimp
  refine call (Ju p) ?_
  push_cast -dsimp
  refine call (Xn p hp) ?_
  push_cast -dsimp
  refine call (Xe (zr p) (by omega) (by omega)) ?_
  push_cast -dsimp [h1]
  exact ⟨[.inr (9,1)],rfl,rfl,by simp only[Y2,Yc,h1];push_cast -dsimp [zb,za,CLe,zd]<;>simp⟩
end
section
open Go.RowKit
theorem zmT (l:List UInt8) (b:UInt8) (h:l[0]?=some b):Lib.hasPrefix l [47]=decide ((b.toNat:Int)=47):=by
 cases l with
 | nil=>simp at h
 | cons x r =>
  simp at h;subst h
  unfold Lib.hasPrefix
  by_cases h:x=47
  ·subst h;rfl
  ·have h2:¬((x.toNat:Int)=47):=yK h
   have h3:¬(47=x):=fun e=>h e.symm
   simp[List.isPrefixOf,h2,h3]
theorem znw (l:List UInt8) (b:UInt8) (h:l[l.length-1]?=some b):Lib.hasSuffix l [47]=decide ((b.toNat:Int)=47):=by
 have hne:l≠[]:=fun e=>by subst e;simp at h
 have hl:l=l.take (l.length-1)++[b]:=by
  have hlt:l.length-1<l.length:=by have:=List.length_pos_iff.2 hne;omega
  have:=List.take_append_drop (l.length-1) l
  rw[List.drop_eq_getElem_cons hlt]at this
  rw[List.getElem?_eq_getElem hlt]at h
  cases h
  rw[List.drop_eq_nil_of_le (by omega)]at this
  exact this.symm
 rw[hl]
 unfold Lib.hasSuffix
 by_cases h:b=47
 ·subst h
  have:([47]:List UInt8) <:+ l.take (l.length-1)++[47]:=List.suffix_append _ _
  rw[List.isSuffixOf_iff_suffix.2 this];rfl
 ·have h2:¬((b.toNat:Int)=47):=yK h
  have h3:¬([47]:List UInt8) <:+ l.take (l.length-1)++[b]:=fun ⟨t,ht⟩=>by
   have:=List.append_inj_right' ht rfl
   simp at this
   exact h this.symm
  have h4:([47]:List UInt8).isSuffixOf (l.take (l.length-1)++[b])=false:=by
   rw[Bool.eq_false_iff];exact fun e=>h3 (List.isSuffixOf_iff_suffix.1 e)
  rw[h4];simp[h2]
theorem zdp:zr [] = []:=rfl
theorem NS (xs:List (List UInt8)) (k:Nat) (x:List UInt8) (h:xs[k]?=some x):Lib.join (xs.take (k+1)) [47]=(if k=0 then x else Lib.join (xs.take k) [47]++[47]++x):=by
 cases xs with
 | nil=>simp at h
 | cons y r =>
  cases k with
  | zero=>simp at h;subst h;simp[Lib.join_one]
  | succ k =>
   simp only[List.take_succ_cons,Nat.succ_ne_zero,if_false]
   rw[Lib.join_cons,Lib.join_cons,Lib.joinTail_take_succ _ _ _ x (by simpa using h)]
   simp[List.append_assoc]
theorem zl7 (xs:List (List UInt8)) (k:Nat):(Lib.join (xs.take k) [47]).length<=(Lib.join xs [47]).length:=by
 by_cases h:xs.take k = []
 ·rw[h];simp[Lib.join]
 ·have h1:=YT (xs.take k) h
  have hx:xs≠[]:=fun e=>h (by rw[e];simp)
  have h2:=YT xs hx
  have h3:((xs.take k).map fun x=>x.length+1).sum<=(xs.map fun x=>x.length+1).sum:=by
   conv=>rhs;rw[←List.take_append_drop k xs,List.map_append,List.sum_append]
   omega
  omega
theorem zbo (xs:List (List UInt8)) (k:Nat) (x:List UInt8) (h:xs[k]?=some x):(if xs.take (k+1) = [] then [] else zW (xs.take (k+1)))=(if xs.take k = [] then [] else zW (xs.take k))++[47]++x:=by
 have hk:k<xs.length:=(List.getElem?_eq_some_iff.1 h).1
 have h1:xs.take (k+1)≠[]:=fun e=>by have:=congrArg List.length e;rw[List.length_take]at this;simp only[List.length_nil]at this;omega
 rw[if_neg h1]
 unfold zW
 rw[if_neg h1,NS xs k x h]
 by_cases hk0:k=0
 ·subst hk0;simp
 ·have h2:xs.take k≠[]:=fun e=>by have:=congrArg List.length e;rw[List.length_take]at this;simp only[List.length_nil]at this;omega
  simp[h2,hk0]
def jst (xs:List (List UInt8)) (k:Nat):List UInt8:=if xs.take k = [] then [] else zW (xs.take k)
theorem zdD (xs:List (List UInt8)) (k:Nat):(jst xs k).length<=(Lib.join xs [47]).length+1:=by
 unfold jst
 split
 ·simp
 ·rename_i h
  have:=zl7 xs k
  unfold zW
  rw[if_neg h]
  simp;omega
theorem xz (xs:List (List UInt8)) (hx:xs.length<=2000001) (hl:(Lib.join xs [47]).length<=100000000):Fun Tryz.prog G0 49 [.sl 1 (zQ xs)] (.str (zW xs)) 0:=by
 by_cases h0:xs = []
 ·subst h0
  refine fon Tryz.func49 ?_;dsimp only[Tryz.f49]
  push_cast -dsimp
  exact ⟨[],rfl,rfl,by push_cast -dsimp [zb,za,CLe,zd]<;>simp[zW]⟩
 ·have h0':¬((xs.length:Int)=0):=by have:=List.length_pos_iff.2 h0;omega
  refine fon Tryz.func49 ?_;dsimp only[Tryz.f49]
  push_cast -dsimp [h0']
  refine loop (fun k:Nat=>⟨[(0,.sl 1 (zQ xs)),(3,.str (jst xs k)),(4,.sc (.int .i64 k))],[],0,0⟩) (fun k=>k<=xs.length) (fun k=>xs.length-k) 0 (Nat.zero_le _) ?_ ?_
  ·exact Jc.mk [] rfl rfl (Nat.zero_le _) rfl (by push_cast -dsimp [zb,za,CLe,zd]<;>simp[jst]) (by push_cast -dsimp [zb,za,CLe,zd])
  ·intro k hk
   by_cases h:k<xs.length
   ·have hg:=V8 xs k h
    have hst:jst xs (k+1)=jst xs k++[47]++xs[k]'h:=zbo xs k (xs[k]'h) (List.getElem?_eq_getElem h)
    have hjk:=zdD xs k
    have hjl:=zdD xs (k+1)
    rw[hst]at hjl
    simp only[List.length_append,List.length_cons,List.length_nil]at hjl
    push_cast -dsimp [h,hg]
    repeat refine an ?_
    refine ⟨k+1,by omega,by omega,Jc.mk [] rfl rfl (Nat.zero_le _) rfl ?_ (by push_cast -dsimp [zb,za,CLe,zd])⟩
    push_cast -dsimp [zb,za,CLe,zd]
    simp[hst]
   ·have hkl:k=xs.length:=by omega
    push_cast -dsimp [h]
    exact ⟨[],rfl,rfl,by push_cast -dsimp [zb,za,CLe,zd]<;>simp[jst,hkl,h0]⟩
theorem kN (l:List UInt8) (hl:l.length<=2000000):Fun Tryz.prog G0 48 [.str l] (qy (may l)) 0:=by
 refine fon Tryz.func48 ?_;dsimp only[Tryz.f48]
 push_cast -dsimp
 refine loop (fun k:Nat=>⟨[(0,.str l),(3,.sc (.int .i64 k))],[],0,0⟩) (fun k=>k<=l.length/\∀ j (hj:j<l.length),j<k->bad (l[j]'hj)=false) (fun k=>l.length-k) 0 ⟨Nat.zero_le _,fun j _ hj=>by omega⟩ ?_ ?_
 ·exact wk
 ·intro k hk
  have hk1:=hk.1
  have hk2:=hk.2
  by_cases h:k<l.length
  ·have hb:l[k]?=some (l[k]'h):=List.getElem?_eq_getElem h
   have hbad:bad (l[k]'h)=true->may l=false:=fun hb=>by
    have:l.any bad=true:=List.any_eq_true.2 ⟨l[k]'h,List.getElem_mem h,hb⟩
    simp[may,this]
   by_cases h47:l[k]'h=47
   ·have h1:(((l[k]'h).toNat:Int)=47):=by rw[h47];rfl
    push_cast -dsimp [h,hb,h1]
    refine ⟨by omega,[],rfl,rfl,?_⟩
    push_cast -dsimp [zb,za,CLe,zd]
    rw[hbad (by simp[bad,h47])]
   ·have h1:¬(((l[k]'h).toNat:Int)=47):=yK h47
    by_cases h00:l[k]'h=0
    ·have h2:(((l[k]'h).toNat:Int)=0):=by rw[h00];rfl
     push_cast -dsimp [h,hb,h1,h2]
     refine ⟨by omega,by omega,[],rfl,rfl,?_⟩
     push_cast -dsimp [zb,za,CLe,zd]
     rw[hbad (by simp[bad,h00])]
    ·have h2:¬(((l[k]'h).toNat:Int)=0):=yK h00
     push_cast -dsimp [h,hb,h1,h2]
     repeat refine an ?_
     refine ⟨k+1,⟨by omega,fun j hj hjk=>?_⟩,by omega,wk⟩
     rcases Nat.lt_or_ge j k with g | g
     ·exact hk2 j hj g
     ·have:j=k:=by omega
      subst this
      simp[bad,h47,h00]
  ·have hany:l.any bad=false:=List.any_eq_false.2 fun x hx=>by
    obtain ⟨j,hj,rfl⟩:=List.getElem_of_mem hx
    simp[hk2 j hj (by omega)]
   obtain rfl:k=l.length:=by omega
   by_cases h0:l = []
   ·subst h0
    push_cast -dsimp
    exact ⟨[],rfl,rfl,by push_cast -dsimp [zb,za,CLe,zd]<;>simp[may]⟩
   ·have h1:(1:Int)<=(l.length:Int):=by have:=List.length_pos_iff.2 h0;omega
    by_cases h2:(l.length:Int)<=255
    ·have h2':l.length<=255:=by omega
     by_cases h4:l = [46]
     ·subst h4
      push_cast -dsimp
      exact ⟨[],rfl,rfl,by push_cast -dsimp [zb,za,CLe,zd]<;>simp[may]⟩
     ·by_cases h5:l = [46,46]
      ·subst h5
       push_cast -dsimp [h4]
       exact ⟨[],rfl,rfl,by push_cast -dsimp [zb,za,CLe,zd]<;>simp[may]⟩
      ·push_cast -dsimp [h,h1,h2,h4,h5]
       exact ⟨[],rfl,rfl,by push_cast -dsimp [zb,za,CLe,zd]<;>simp[may,h0,h2',hany,h4,h5]⟩
    ·have h2':¬l.length<=255:=by omega
     push_cast -dsimp [h,h1,h2]
     exact ⟨[],rfl,rfl,by push_cast -dsimp [zb,za,CLe,zd]<;>simp[may,h2']⟩
theorem Mn (p:List UInt8) (hp:p.length<=2000000):Fun Tryz.prog G0 21 [.str p] (Y2 p) 1:=by
 have hn:=zfv p (by omega)
 have hs:=qJ p
 have hj:=N1 p
 refine fon Tryz.func21 ?_;dsimp only[Tryz.f21]
 push_cast -dsimp
 refine call hn ?_
 push_cast -dsimp
 refine loop (fun k:Nat=>⟨[(0,.str p),(4,.own 0 9 1 (zQ (zr p))),(5,.sc (.int .i64 k))],[],1,0⟩) (fun k=>k<=(zr p).length/\∀ j (hj:j<(zr p).length),j<k->may ((zr p)[j]'hj)=true) (fun k=>(zr p).length-k) 0 ⟨Nat.zero_le _,fun j _ hj=>by omega⟩ ?_ ?_
 ·exact wks [.inl 0]
 ·intro k hk
  have hk1:=hk.1
  have hk2:=hk.2
  by_cases h:k<(zr p).length
  ·have hg:=V8 (zr p) k h
   have hlen:=hj.2 ((zr p)[k]'h) (List.getElem_mem h)
   push_cast -dsimp [h,hg]
   refine ⟨by omega,?_⟩
   refine call (kN ((zr p)[k]'h) (by omega)) ?_
   push_cast -dsimp
   cases hm:may ((zr p)[k]'h) with
   | true =>
    push_cast -dsimp
    repeat refine an ?_
    refine ⟨k+1,⟨by omega,fun j hj hjk=>?_⟩,by omega,wks [.inl 0]⟩
    rcases Nat.lt_or_ge j k with g | g
    ·exact hk2 j hj g
    ·have:j=k:=by omega
     subst this;exact hm
   | false =>
    have hall:(zr p).all may=false:=List.all_eq_false.2 ⟨(zr p)[k]'h,List.getElem_mem h,by simp[hm]⟩
    push_cast -dsimp
    exact ⟨[.inr (9,1)],rfl,rfl,by simp only[Y2,Yc,hall];push_cast -dsimp [zb,za,CLe,zd]<;>simp⟩
  ·have hall:(zr p).all may=true:=List.all_eq_true.2 fun x hx=>by
    obtain ⟨j,hj,rfl⟩:=List.getElem_of_mem hx
    exact hk2 j hj (by omega)
   push_cast -dsimp [h]
   refine call (xz (zr p) (by omega) (by omega)) ?_
   push_cast -dsimp
   by_cases h1:zW (zr p)=p
   ·push_cast -dsimp [h1]
    exact ⟨[.inl 0],rfl,rfl,by simp only[Y2,Yc,h1,hall];push_cast -dsimp [zb,za,CLe,zd]<;>simp⟩
   ·push_cast -dsimp [h1]
    exact ⟨[.inr (9,1)],rfl,rfl,by simp only[Y2,Yc,h1];push_cast -dsimp [zb,za,CLe,zd]<;>simp⟩
end
section
open Go.RowKit
def X1 (x:List UInt8):Prop:=x≠[]/\(47:UInt8)∉x
theorem zc2:∀ a t:List UInt8,jv (a++47 :: t)=jv a++jv t
 | [],t=>by
  have:jv (47 :: t) = [] :: jv t:=rfl
  exact this
 | b :: a,t=>by
  have ih:=zc2 a t
  have e1:jv (b :: (a++47 :: t))=if b=47 then [] :: jv (a++47 :: t) else match jv (a++47 :: t) with
   | []=>[[b]]
   | x :: r=>(b :: x) :: r:=rfl
  have e2:jv (b :: a)=if b=47 then [] :: jv a else match jv a with
   | []=>[[b]]
   | x :: r=>(b :: x) :: r:=rfl
  rw[List.cons_append,e1,e2,ih]
  by_cases hb:b=47
  ·simp[hb]
  ·rw[if_neg hb,if_neg hb]
   have hne:=kf a
   cases hs:jv a with
   | nil=>exact absurd hs hne
   | cons x r=>simp
theorem zdB:∀ x:List UInt8,(47:UInt8)∉x->jv x = [x]
 | [],_=>rfl
 | b :: x,h=>by
  have hb:¬(b=47):=fun e=>h (by rw[e];exact List.mem_cons_self)
  have ih:=zdB x (fun hx=>h (List.mem_cons_of_mem _ hx))
  unfold jv
  rw[if_neg hb,ih]
theorem zeH:∀ (l x:List UInt8),x∈jv l->(47:UInt8)∉x
 | [],x,h=>by simp[jv]at h;subst h;simp
 | b :: l,x,h=>by
  have ih:=zeH l
  unfold jv at h
  by_cases hb:b=47
  ·rw[if_pos hb]at h
   rcases List.mem_cons.1 h with rfl | h
   ·simp
   ·exact ih x h
  ·rw[if_neg hb]at h
   have hne:=kf l
   cases hs:jv l with
   | nil=>exact absurd hs hne
   | cons y r =>
    rw[hs]at h ih
    simp only at h
    rcases List.mem_cons.1 h with rfl | h
    ·intro hm
     rcases List.mem_cons.1 hm with e | hm
     ·exact hb e.symm
     ·exact ih y List.mem_cons_self hm
    ·exact ih x (List.mem_cons_of_mem _ h)
theorem zfp {l x:List UInt8} (h:x∈zr l):X1 x:=by
 rw[jL,List.mem_filter]at h
 exact ⟨by simpa using h.2,zeH l x h.1⟩
theorem VT (a t:List UInt8):zr (a++47 :: t)=zr a++zr t:=by
 rw[jL,jL,jL,zc2,List.filter_append]
theorem G5 {x:List UInt8} (h:X1 x):zr x = [x]:=by
 rw[jL,zdB x h.2]
 simp[h.1]
theorem Ql (l:List UInt8):zr (47 :: l)=zr l:=VT [] l
theorem ZP:∀ xs:List (List UInt8),(∀ x∈xs,X1 x)->zr (Lib.join xs [47])=xs
 | [],_=>rfl
 | [x],h=>by rw[Lib.join_one];exact G5 (h x List.mem_cons_self)
 | x :: y :: r,h=>by
  have ih:=ZP (y :: r) fun z hz=>h z (List.mem_cons_of_mem _ hz)
  rw[jZ,List.append_assoc]
  show zr (x++47 :: Lib.join (y :: r) [47])=_
  rw[VT,ih,G5 (h x List.mem_cons_self)]
  rfl
theorem Us (xs:List (List UInt8)) (h:∀ x∈xs,X1 x):zr (zW xs)=xs:=by
 unfold zW
 by_cases hx:xs = []
 ·rw[if_pos hx,hx];rfl
 ·rw[if_neg hx,Ql,ZP xs h]
theorem zeh (a:Bool) (xs:List (List UInt8)) (s:Bool) (h:∀ x∈xs,X1 x):zr (put a xs s)=xs:=by
 have hj:=ZP xs h
 unfold put
 have e1:∀ t:List UInt8,zr ((if a then [47] else [])++t)=zr t:=fun t=>by
  cases a
  ·rfl
  ·exact Ql t
 rw[List.append_assoc,e1]
 split
 ·rw[show Lib.join xs [47]++[47]=Lib.join xs [47]++47 :: [] from rfl,VT,hj]
  simp[zdp]
 ·rw[List.append_nil,hj]
theorem Vu (b:UInt8) (l:List UInt8):Lib.hasPrefix (b :: l) [47]=decide (b=47):=by
 have:=zmT (b :: l) b rfl
 rw[this]
 by_cases h:b=47
 ·subst h;rfl
 ·have h2:¬((b.toNat:Int)=47):=yK h
  simp[h,h2]
theorem zk4:Lib.hasPrefix [] [47]=false:=rfl
theorem zeS (x:List UInt8) (r:List (List UInt8)):∃ t,Lib.join (x :: r) [47]=x++t:=by
 cases r with
 | nil=>exact ⟨[],by rw[Lib.join_one];simp⟩
 | cons y r=>exact ⟨[47]++Lib.join (y :: r) [47],by rw[jZ,List.append_assoc]⟩
theorem zk5 (a:Bool) (xs:List (List UInt8)) (s:Bool) (h:∀ x∈xs,X1 x):Lib.hasPrefix (put a xs s) [47]=a:=by
 unfold put
 cases a
 ·cases xs with
  | nil=>simp[Lib.join,zk4]
  | cons x r =>
   obtain ⟨t,ht⟩:=zeS x r
   have hx:=h x List.mem_cons_self
   rw[ht]
   cases x with
   | nil=>exact absurd rfl hx.1
   | cons b x =>
    have:¬(b=47):=fun e=>hx.2 (by rw[e];exact List.mem_cons_self)
    simp[Vu,this]
 ·simp[Vu]
theorem uu (l:List UInt8) (b:UInt8):Lib.hasSuffix (l++[b]) [47]=decide (b=47):=by
 have:=znw (l++[b]) b (by simp)
 rw[this]
 by_cases h:b=47
 ·subst h;rfl
 ·have h2:¬((b.toNat:Int)=47):=yK h
  simp[h,h2]
theorem GY:∀ xs:List (List UInt8),xs≠[]->(∀ x∈xs,X1 x)->∃ t b,Lib.join xs [47]=t++[b]/\b≠47
 | [],h,_=>absurd rfl h
 | [x],_,h=>by
  have hx:=h x List.mem_cons_self
  refine ⟨x.dropLast,x.getLast hx.1,?_,fun e=>hx.2 ?_⟩
  ·rw[Lib.join_one,List.dropLast_concat_getLast]
  ·rw[←e];exact List.getLast_mem _
 | x :: y :: r,_,h=>by
  obtain ⟨t,b,e,hb⟩:=GY (y :: r) (by simp) fun z hz=>h z (List.mem_cons_of_mem _ hz)
  exact ⟨x++[47]++t,b,by rw[jZ,e];simp,hb⟩
theorem MG (a:Bool) (xs:List (List UInt8)) (s:Bool) (h:∀ x∈xs,X1 x):(!decide (xs = [])&&Lib.hasSuffix (put a xs s) [47])=(s&&!decide (xs = [])):=by
 by_cases hx:xs = []
 ·simp[hx]
 ·unfold put
  cases s
  ·obtain ⟨t,b,e,hb⟩:=GY xs hx h
   have:=uu ((if a then [47] else [])++t) b
   simp only[Bool.false_and,Bool.false_eq_true,if_false,List.append_nil,e]
   rw[←List.append_assoc,this]
   simp[hb]
  ·have:=uu ((if a then [47] else [])++Lib.join xs [47]) 47
   simp only[hx,Bool.true_and,decide_false,Bool.not_false,if_true]
   rw[this];rfl
theorem zam (p:List UInt8) (h:zr p = []):Lib.hasPrefix p [47] = !decide (p = []):=by
 cases p with
 | nil=>rfl
 | cons b l =>
  rw[Vu]
  by_cases hb:b=47
  ·simp[hb]
  ·exfalso
   rw[jL]at h
   have hne:=kf l
   have:∃ x r,jv (b :: l)=(b :: x) :: r:=by
    unfold jv
    rw[if_neg hb]
    cases hs:jv l with
    | nil=>exact absurd hs hne
    | cons x r=>exact ⟨x,r,rfl⟩
   obtain ⟨x,r,e⟩:=this
   rw[e]at h
   simp at h
theorem XH {x:List UInt8} (h:may x=true):X1 x:=by
 simp only[may,Bool.and_eq_true,Bool.not_eq_true',decide_eq_false_iff_not]at h
 refine ⟨h.1.1.1.1,fun hm=>?_⟩
 have:=List.any_eq_false.1 h.1.1.2 47 hm
 exact this (by decide)
end
section
open Go.RowKit Go.ChangeMaps Go.ChangeShapes Go.WideShapes Go.Deep Go.Joins
theorem ya (R:Env):Y5 G0 R:=fun g cs h=>by cases h
theorem ZX:∀ {rows:List (List C)},(∀ r∈rows,∃ c,r = [c]/\∃ l:List UInt8,c = .str l/\l.length<=maxLen)->∃ xs:List (List UInt8),rows=zQ xs/\∀ x∈xs,x.length<=maxLen
 | [],_=>⟨[],rfl,fun x h=>by cases h⟩
 | r :: rows,h=>by
  obtain ⟨xs,rfl,hx⟩:=ZX fun r' hr=>h r' (List.mem_cons_of_mem _ hr)
  obtain ⟨c,rfl,l,rfl,hl⟩:=h r List.mem_cons_self
  exact ⟨l :: xs,rfl,fun x hx'=>(List.mem_cons.1 hx').elim (fun e=>e▸hl) (hx x)⟩
section
variable {H:Type} {enc:TypeId×Value->H} {W:World}
theorem zhF:Opn enc Tryz.prog W 30 fun c=>∃ xs:List (List UInt8),c = .sl 1 (zQ xs)/\xs.length<=maxLen/\∀ x∈xs,x.length<=maxLen:=fun fuel cs x hx=>by
 obtain ⟨v,c,rfl,⟨rows,rfl,hl,hr⟩,h1,h2⟩:=Opn.slice (W:=W) (enc:=enc) Tryz.underlying30 (show Tryz.prog.cellsOf 9=1 by kernel_rfl) (Nat.zero_lt_one) (qY.one (Opn.str Tryz.underlying9)) fuel cs x hx
 obtain ⟨xs,rfl,hx'⟩:=ZX hr
 exact ⟨v,_,rfl,⟨xs,rfl,by simpa using hl,hx'⟩,h1,h2⟩
end
end
section
open Go.RowKit
mutual
/-- the cells that read as a datum of Yc data -/
def Zr:DataW Unit->Option (List Value)
 | .lit (.int k n)=>some [.int k n]
 | .lit (.bool b)=>some [.bool b]
 | .lit (.string l)=>some [.string ⟨l.toArray⟩]
 | .agg ds=>Uj ds
 | _=>none
def Uj:List (DataW Unit)->Option (List Value)
 | []=>some []
 | d :: ds=>match Zr d,Uj ds with
  | some a,some b=>some (a++b)
  | _,_=>none
end
def G7 (P:Program):Nat->List Field->Nat->Bool
 | j,[],n=>j==n
 | j,f :: fs,n=>f.offset==j&&G7 P (j+P.cellsOf f.type) fs n
def UD (P:Program):Nat->TypeId->Bool
 | 0,_=>false
 | m+1,t=>match P.underlying t with
  | some .bool=>true
  | some (.int _)=>true
  | some .string=>true
  | some (.struct fs)=>G7 P 0 fs.toList (P.cellsOf t)&&fs.toList.all fun f=>UD P m f.type
  | some (.array n e)=>UD P m e&&P.cellsOf t==n*P.cellsOf e
  | _=>false
section
variable {enc:TypeId×Value->Unit} {P:Program} {w:World} {base:Nat} {spare:Nat->Bool} {held:Bool}
theorem Uh {d:DataW Unit} {ds:List (DataW Unit)} {a b:List Value} (h1:Zr d=some a) (h2:Uj ds=some b):Uj (d :: ds)=some (a++b):=by
 rw[Uj,h1,h2]
theorem Q8 {n:Nat} {cs:List Value} (ih:∀ t cs d p,UD P n t=true->DataW.trod enc P w base spare held n t cs=some (d,p)->Zr d=some cs) {m:Nat} (hm:∀ t cs d p,UD P m t=true->DataW.trod enc P w base spare held n t cs=some (d,p)->Zr d=some cs) :
  ∀ (fs:List Field) (j N:Nat) (xs:List (DataW Unit×List MemPlace)),G7 P j fs N=true->(fs.all fun f=>UD P m f.type)=true->cs.length=N->xs.length=fs.length ->
   (∀ (i:Nat) (f:Field),fs[i]?=some f->DataW.trod enc P w base spare held n f.type ((cs.drop f.offset).take (P.cellsOf f.type))=xs[i]?)->Uj (xs.map (·.1))=some (cs.drop j)
 | [],j,N,xs,hc,_,hl,hx,_=>by
  simp only[G7,beq_iff_eq]at hc
  match xs,hx with
  | [],_=>rw[List.drop_of_length_le (by omega)];rfl
 | f :: fs,j,N,xs,hc,ha,hl,hx,hf=>by
  simp only[G7,Bool.and_eq_true,beq_iff_eq]at hc
  simp only[List.all_cons,Bool.and_eq_true]at ha
  match xs,hx with
  | x :: xs,hx =>
   have h0:=hf 0 f rfl
   have e0:Zr x.1=some ((cs.drop f.offset).take (P.cellsOf f.type)):=hm _ _ _ x.2 ha.1 h0
   have e1:=Q8 ih hm fs _ N xs hc.2 ha.2 hl (by simpa using hx) fun i g hg=>hf (i+1) g hg
   rw[List.map_cons,Uh e0 e1,hc.1,←List.drop_drop,List.take_append_drop]
theorem Z6 {n:Nat} {e:TypeId} {cs:List Value}:∀ (N j:Nat) (xs:List (DataW Unit×List MemPlace)),(∀ cs d p,DataW.trod enc P w base spare held n e cs=some (d,p)->Zr d=some cs)->cs.length=(j+N)*P.cellsOf e->xs.length=N ->
   (∀ (i:Nat),i<N->DataW.trod enc P w base spare held n e ((cs.drop ((j+i)*P.cellsOf e)).take (P.cellsOf e))=xs[i]?)->Uj (xs.map (·.1))=some (cs.drop (j*P.cellsOf e))
 | 0,j,xs,_,hl,hx,_=>by
  match xs,hx with
  | [],_=>rw[List.drop_of_length_le (by simp at hl;omega)];rfl
 | N+1,j,xs,hm,hl,hx,hf=>by
  match xs,hx with
  | x :: xs,hx =>
   have e0:=hm _ _ x.2 (hf 0 (Nat.zero_lt_succ _))
   have e1:=Z6 N (j+1) xs hm (by rw[hl];congr 1;omega) (by simpa using hx) fun i hi=>by
    have:=hf (i+1) (by omega)
    rw[show j+(i+1)=j+1+i by omega]at this
    exact this
   rw[List.map_cons,Uh e0 e1,Nat.add_zero,show (j+1)*P.cellsOf e=j*P.cellsOf e+P.cellsOf e by rw[Nat.add_mul];omega,←List.drop_drop,List.take_append_drop]
theorem Xr:∀ (n m:Nat) (t:TypeId) (cs:List Value) (d:DataW Unit) (p:List MemPlace),UD P m t=true->DataW.trod enc P w base spare held n t cs=some (d,p)->Zr d=some cs
 | 0,m,t,cs,d,p,_,h=>by simp[DataW.trod]at h
 | n+1,0,t,cs,d,p,hf,h=>by simp[UD]at hf
 | n+1,m+1,t,cs,d,p,hf,h=>by
  unfold UD at hf
  split at hf
  ·rename_i hu
   obtain ⟨b,rfl,e⟩:=DataW.trod_bool hu h
   cases e;rfl
  ·rename_i k hu
   obtain ⟨b,rfl,e,_⟩:=DataW.trod_int hu h
   cases e;rfl
  ·rename_i hu
   obtain ⟨s,rfl,e,_⟩:=DataW.trod_string hu h
   cases e
   rw[Zr]
  ·rename_i fs hu
   simp only[Bool.and_eq_true]at hf
   obtain ⟨xs,n',hn,e,hl,hx,hg⟩:=DataW.trod_struct hu h
   cases hn;cases e
   have hrec:∀ t cs d p,UD P m t=true->DataW.trod enc P w base spare held n t cs=some (d,p)->Zr d=some cs:=fun t cs d p=>Xr n m t cs d p
   have:=Q8 (n:=n) (fun t cs d p=>Xr n n t cs d p) hrec fs.toList 0 _ xs hf.1 hf.2 hl (by rw[hx];rfl) fun i f hif=>hg i f (by simpa using hif)
   rw[List.drop_zero]at this
   rw[Zr,this]
  ·rename_i N e hu
   simp only[Bool.and_eq_true,beq_iff_eq]at hf
   obtain ⟨xs,n',hn,e',hl,hx,hg⟩:=DataW.trod_array hu h
   cases hn;cases e'
   have:=Z6 (n:=n) (e:=e) (cs:=cs) N 0 xs (fun cs d p=>Xr n m e cs d p hf.1) (by rw[hl,hf.2,Nat.zero_add]) hx fun i hi=>by rw[Nat.zero_add];exact hg i hi
   rw[Nat.zero_mul,List.drop_zero]at this
   rw[Zr,this]
  ·cases hf
end
theorem Hy {W:World} {g:Nat}:∀ (vs:List Value) (o:Nat),(∀ (i:Nat) v,vs[i]?=some v->W.cell? ⟨g,o+i,none⟩=some v)->(vs.all fun v=>v.oneCell')=true->zH (Mu W) (vs.map zy) g o:=fun vs o h ho=>by
 refine zV fun i c hc=>?_
 rw[List.getElem?_map,Option.map_eq_some_iff]at hc
 obtain ⟨v,hv,rfl⟩:=hc
 exact ⟨v,h i v hv,fun hf=>hf,jj _ _ v,List.all_eq_true.1 ho v (List.mem_of_getElem? hv)⟩
theorem Hl {P:Program} {W:World} {l:List (String×DataW Unit)} (h:laidMetH P l W) (hp:(l.filter fun x=>x.2.handleName?.isSome) = []) {n:String} {d:DataW Unit} (hm:(n,d)∈l) {g:Nat} {t:TypeId} {m:Nat} {vs:List Value}
  (hg:P.globalNamed n=some g) (ht:(P.globals[g]?).map (·.type)=some t) (hf:UD P m t=true) (hd:Zr d=some vs) (ho:(vs.all fun v=>v.oneCell')=true):zH (Mu W) (vs.map zy) g 0:=by
 unfold laidMetH at h
 rw[hp]at h
 obtain ⟨g',t',cs,fuel,p,hg',ht',hvar,htr⟩:=Lib.laidMet.reads h hm
 rw[hg]at hg';cases hg'
 rw[ht]at ht';cases ht'
 have e:=Xr _ _ _ _ _ _ hf htr
 have e':vs=cs.toList:=Option.some.inj (hd.symm.trans e)
 subst e'
 refine Hy _ 0 (fun i v hv=>?_) ho
 rw[World.var?_cell hg hvar,Nat.zero_add]
 simpa using hv
theorem j4 {P:Program} {W:World} {l:List (String×DataW Unit)} (h:laidMetH P l W) (hp:(l.filter fun x=>x.2.handleName?.isSome) = []) {n:String} {d:DataW Unit} (hm:(n,d)∈l) {g:Nat} {t:TypeId} {m:Nat} {vs:List Value}
  (hg:P.globalNamed n=some g) (ht:(P.globals[g]?).map (·.type)=some t) (hf:UD P m t=true) (hd:Zr d=some vs) (ho:(vs.all fun v=>v.oneCell')=true) :
  zH (Mu W) (vs.map zy) g 0/\(∃ us ty fl,(Mu W).w.heap[g]?=some (.cells us ty fl)/\us.size=(vs.map zy).length)/\∀ o,¬(Mu W).M g o:=by
 refine ⟨Hl h hp hm hg ht hf hd ho,?_,fun o h=>h⟩
 unfold laidMetH at h
 rw[hp]at h
 obtain ⟨g',t',cs,fuel,p,hg',ht',hvar,htr⟩:=Lib.laidMet.reads h hm
 rw[hg]at hg';cases hg'
 rw[ht]at ht';cases ht'
 have e:=Xr _ _ _ _ _ _ hf htr
 have e':vs=cs.toList:=Option.some.inj (hd.symm.trans e)
 subst e'
 unfold World.var? at hvar
 rw[hg]at hvar
 simp only[Option.bind_some]at hvar
 split at hvar
 ·rename_i cs' ty fl hh
  cases hvar
  exact ⟨_,_,_,hh,by simp⟩
 ·cases hvar
theorem Fun.glob {P:Program} {G G':zn} {f:FuncId} {args:List C} {r:C} {n:Nat} (h:Fun P G f args r n) (hG:∀ g cs,G g=some cs->G' g=some cs):Fun P G' f args r n:=
 ⟨h.1,fun R vs hg ha=>h.2 R vs (fun g cs e=>hg g cs (hG g cs e)) ha⟩
theorem Fun.glob0 {P:Program} {G':zn} {f:FuncId} {args:List C} {r:C} {n:Nat} (h:Fun P G0 f args r n):Fun P G' f args r n:=h.glob fun g cs e=>by cases e
end
section
open CA CB
open Go.RowKit
def znq:List Value:=[.bool false,.bool false,.bool false,.bool false,.bool false,.bool false,.bool false,.bool true,.bool false,.bool true,.bool true,.bool false,.bool false,.bool false,.bool true,.bool false,.bool true,.bool false,.bool false,.bool true,.bool false,.bool true,.bool false,.bool false,.bool false,.bool false,.bool false,.bool true,.bool false,.bool false,.bool true,.bool false,.bool false]
def G1:zn:=fun g=>if g=4 then some (znq.map zy) else none
theorem zoj:G1 4=some [.sc (.bool false),.sc (.bool false),.sc (.bool false),.sc (.bool false),.sc (.bool false),.sc (.bool false),.sc (.bool false),.sc (.bool true),.sc (.bool false),.sc (.bool true),.sc (.bool true),.sc (.bool false),.sc (.bool false),.sc (.bool false),.sc (.bool true),.sc (.bool false),.sc (.bool true),.sc (.bool false),.sc (.bool false),.sc (.bool true),.sc (.bool false),.sc (.bool true),.sc (.bool false),.sc (.bool false),.sc (.bool false),.sc (.bool false),.sc (.bool false),.sc (.bool true),.sc (.bool false),.sc (.bool false),.sc (.bool true),.sc (.bool false),.sc (.bool false)]:=rfl
attribute [push_cast] zoj
def j9 (p:List UInt8):Bool:=Yc p&&!decide (zr p = [])
theorem GZ (p:List UInt8) (hp:p.length<=1000000):Fun Tryz.prog G0 183 [.str p] (qy (j9 p)) 0:=by
 have h:=GU p hp
 unfold Y2 at h
 cases hb:Yc p with
 | false =>
  rw[hb]at h
  refine fon Tryz.func183 ?_;dsimp only[Tryz.f183]
  push_cast -dsimp
  refine cl (h) ?_;push_cast -dsimp
  exact ⟨[],rfl,rfl,by push_cast -dsimp [zb,za,CLe,zd];simp[j9,hb]⟩
 | true =>
  rw[hb,if_pos rfl]at h
  refine fon Tryz.func183 ?_;dsimp only[Tryz.f183]
  push_cast -dsimp
  refine cl (h) ?_;push_cast -dsimp
  refine ⟨[],rfl,rfl,?_⟩
  push_cast -dsimp [zb,za,CLe,zd]
  by_cases hn:zr p = []
  ·simp[j9,hb,hn]
  ·have:=List.length_pos_iff.2 hn
   simp[j9,hb,hn,this]
theorem za3 (l:List UInt8):Fun Tryz.prog G0 170 [.str l,.str [0]] (.sc (.int .i64 (Lib.indexByte l 0))) 0:=by
 refine Fun.wrap (by kernel_rfl) fun R vs h=>?_
 obtain ⟨v1,us1,rfl,h1,h⟩:=ze.1 h
 obtain ⟨v2,us2,rfl,h2,h⟩:=ze.1 h
 rw[zi]at h
 subst h
 rw[zM]at h1 h2
 subst h1 h2
 refine (Tryz.strings_Index_one ⟨l.toArray⟩ 0 R.w).mono ?_
 rintro e w' ⟨rfl,rfl⟩
 exact ⟨_,rfl,Below.refl _ _,fun R' _=>zl.2 (by simp)⟩
theorem kJ:∀ l:List UInt8,decide (0<=Lib.indexByte l 0)=l.any (fun b=>decide (b=0))/\-1<=Lib.indexByte l 0
 | []=>⟨rfl,by decide⟩
 | b :: l=>by
  obtain ⟨h1,h2⟩:=kJ l
  unfold Lib.indexByte
  by_cases hb:b=0
  ·subst hb;simp
  ·have hb':(b==0)=false:=by simpa using hb
   rw[hb']
   simp only[Bool.false_eq_true,if_false,List.any_cons,hb,decide_false,Bool.false_or,←h1]
   split
   ·rename_i hm
    have:=beq_iff_eq.1 hm
    rw[this];simp
   ·rename_i hm
    have:¬Lib.indexByte l 0 = -1:=fun e=>hm (by rw[e];rfl)
    constructor
    ·rw[decide_eq_decide];omega
    ·omega
theorem Hf (l:List UInt8) (hl:l.length<=1000000):Fun Tryz.prog G0 212 [.str l,.str [0]] (qy (l.any fun b=>decide (b=0))) 0:=by
 have h:=(kJ l).1
 refine fon Tryz.func212 ?_;dsimp only[Tryz.f212]
 push_cast -dsimp
 refine cl (za3 l) ?_;push_cast -dsimp
 exact dn (by push_cast -dsimp [zb,za,CLe,zd,h])
def Uo (s:List UInt8):Bool:=!decide (s = [])&&decide (s.length<=4095)&&!(s.any fun b=>decide (b=0))
theorem zbi (s:List UInt8) (hs:s.length<=1000000):Fun Tryz.prog G0 184 [.str s] (qy (Uo s)) 0:=by
 have h:=Hf s hs
 by_cases h1:s = []
 ·refine fon Tryz.func184 ?_;dsimp only[Tryz.f184]
  push_cast -dsimp [h1]
  exact ⟨[],rfl,rfl,by push_cast -dsimp [zb,za,CLe,zd];simp[Uo,h1]⟩
 ·by_cases h2:s.length<=4095
  ·have h2':(s.length:Int)<=4095:=by omega
   refine fon Tryz.func184 ?_;dsimp only[Tryz.f184]
   push_cast -dsimp [h1,h2']
   refine cl (h) ?_;push_cast -dsimp
   exact ⟨[],rfl,rfl,by push_cast -dsimp [zb,za,CLe,zd];simp[Uo,h1,h2]⟩
  ·have h2':¬(s.length:Int)<=4095:=by omega
   refine fon Tryz.func184 ?_;dsimp only[Tryz.f184]
   push_cast -dsimp [h1,h2']
   exact ⟨[],rfl,rfl,by push_cast -dsimp [zb,za,CLe,zd];simp[Uo,h1,h2]⟩
end
end Go.Proofs.YtlkjpfiancahiaaGreatDoor.Vcg
section
namespace Go.Proofs.YtlkjpfiancahiaaGreatDoor.QuotePlain
abbrev Bs:=List UInt8
def good (c:UInt8):Bool:=decide (32<=c.toNat/\c.toNat<=126/\c.toNat≠34/\c.toNat≠92)
def zjd:Bs:=[48,49,50,51,52,53,54,55,56,57,97,98,99,100,101,102]
def HV (n:Nat):UInt8:=zjd.getD n 0
def qb (c:UInt8):Bs:=if good c then [c] else [92,120,HV (c.toNat / 16),HV (c.toNat % 16)]
def mid (l:Bs):Bs:=l.flatMap qb
def qj (l:Bs):Bs:=34 :: (mid l++[34])
def znm (l:Bs):Bool:=decide (l≠[])&&l.all fun c=>decide (33<=c.toNat/\c.toNat<=126/\c.toNat≠34)
def zmx (c:UInt8):Nat:=(zjd.findIdx? (·==c)).getD 16
def zho:Bs->UInt8×Nat
 | []=>(0,0)
 | c :: r =>
  if c≠92 then (if good c then (c,1) else (0,0))
  else match r with
   | x :: a :: b :: _=>if x=120/\zmx a<16/\zmx b<16/\good (UInt8.ofNat (zmx a*16+zmx b))=false then (UInt8.ofNat (zmx a*16+zmx b),4) else (0,0)
   | _=>(0,0)
theorem ze5 {p:UInt8->Bool} (h:(List.range 256).all (fun n=>p (UInt8.ofNat n))=true) (c:UInt8):p c=true:=by
 have h1:=List.all_eq_true.1 h c.toNat (List.mem_range.2 c.toNat_lt)
 simpa using h1
def zm2:Nat->Bs->Option (Bs×Nat)
 | 0,_=>none
 | _+1,[]=>none
 | f+1,c :: r=>if c=34 then some ([],1) else if (zho (c :: r)).2=0 then none else (zm2 f ((c :: r).drop (zho (c :: r)).2)).map fun x=>((zho (c :: r)).1 :: x.1,(zho (c :: r)).2+x.2)
def body (l:Bs):Option (Bs×Nat):=zm2 (l.length+1) l
def qtd:Bs->Option (Bs×Nat)
 | []=>none
 | c :: r=>if c=34 then (body r).map fun x=>(x.1,x.2+1) else none
def unq (l:Bs):Option Bs:=match qtd l with | some (t,n)=>if n=l.length then some t else none | none=>none
end Go.Proofs.YtlkjpfiancahiaaGreatDoor.QuotePlain
end
section
namespace Go.Proofs.YtlkjpfiancahiaaGreatDoor.QuotePlain
def okw (w:Bs):Bool:=(unq w).isSome||znm w
def cut:Bs->Bs->Bool->Option (List Bs)
 | [],w,_=>if okw w then some [w] else none
 | c :: r,w,i=>if c=32/\i=false then (if okw w then (cut r [] i).map (w :: ·) else none) else cut r (w++[c]) (if c=34 then !i else i)
end Go.Proofs.YtlkjpfiancahiaaGreatDoor.QuotePlain
end
section
namespace Go.Proofs.YtlkjpfiancahiaaGreatDoor.QuotePlain
def F (q:List Bs):Bs:=q.flatMap (·++[32])
end Go.Proofs.YtlkjpfiancahiaaGreatDoor.QuotePlain
end
namespace Go.Proofs.YtlkjpfiancahiaaGreatDoor.Vcg
section
structure OpV where
 kind:Int
 slot:Int
 a:List UInt8
 b:List UInt8
 d:List UInt8
deriving DecidableEq,Inhabited
def kX (k:Int):Bool:=decide (k=3)||decide (k=7)||decide (k=9)||decide (k=10)
def zpD (k:Int):Bool:=decide (k=2)||decide (k=3)||decide (k=5)||decide (k=6)
end
section
open CA CB
open Go.RowKit
def opL (o:OpV):List C:=[.sc (.int .i64 o.kind),.sc (.int .i64 o.slot),.str o.a,.str o.b,.str o.d]
def yo (o:OpV):Bool:=decide (1<=o.kind)&&decide (o.kind<=10)&&j9 o.a&&(if kX o.kind then decide (1<=o.slot)&&decide (o.slot<=1073741824) else decide (o.slot=0))&&(if zpD o.kind then j9 o.b else decide (o.b = []))
 && (if o.kind=4 then Uo o.d else decide (o.d = []))&&(!decide (o.kind=6)||(!U5 o.a o.b&&!U5 o.b o.a))
def zg8 (o:OpV):Prop:=o.a.length<=100000/\o.b.length<=100000/\o.d.length<=100000
theorem zfr (k s:Int) (a b d:List UInt8) (hs:zg8 ⟨k,s,a,b,d⟩):Fun Tryz.prog G1 159 [.agg (opL ⟨k,s,a,b,d⟩)] (qy (yo ⟨k,s,a,b,d⟩)) 0:=by
 have hs1:a.length<=100000:=hs.1
 have hs2:b.length<=100000:=hs.2.1
 have hs3:d.length<=100000:=hs.2.2
 have h1:=(GZ a (by omega)).glob0 (G':=G1)
 have h2:=(GZ b (by omega)).glob0 (G':=G1)
 have h3:=(zbi d (by omega)).glob0 (G':=G1)
 have h4:=(kr a b (by omega)).glob0 (G':=G1)
 have h5:=(kr b a (by omega)).glob0 (G':=G1)
 unfold opL
 by_cases hk1:k<1
 ·have:¬1<=k:=by omega
  refine fon Tryz.func159 ?_;dsimp only[Tryz.f159]
  push_cast -dsimp [hk1]
  exact ⟨[],rfl,rfl,by push_cast -dsimp [zb,za,CLe,zd];simp[yo,this]⟩
 by_cases hk2:10<k
 ·have:¬k<=10:=by omega
  refine fon Tryz.func159 ?_;dsimp only[Tryz.f159]
  push_cast -dsimp [hk1,hk2]
  exact ⟨[],rfl,rfl,by push_cast -dsimp [zb,za,CLe,zd];simp[yo,this]⟩
 cases hp:j9 a with
 | false =>
  rw[hp]at h1
  refine fon Tryz.func159 ?_;dsimp only[Tryz.f159]
  push_cast -dsimp [hk1,hk2]
  refine cl (h1) ?_;push_cast -dsimp
  exact ⟨[],rfl,rfl,by push_cast -dsimp [zb,za,CLe,zd];simp[yo,hp]⟩
 | true =>
  rw[hp]at h1
  have hk:k=1∨k=2∨k=3∨k=4∨k=5∨k=6∨k=7∨k=8∨k=9∨k=10:=by omega
  clear hk1 hk2 hs hs1 hs2 hs3
  rcases hk with rfl | rfl | rfl | rfl | rfl | rfl | rfl | rfl | rfl | rfl
  all_goals
   refine fon Tryz.func159 ?_;dsimp only[Tryz.f159]
   push_cast -dsimp
   refine cl (h1) ?_;push_cast -dsimp
   repeat' (first
    | (refine call h2 ?_;push_cast -dsimp)
    | (refine zax h2 ?_;push_cast -dsimp)
    | (refine call h3 ?_;push_cast -dsimp)
    | (refine zax h3 ?_;push_cast -dsimp)
    | (refine call h4 ?_;push_cast -dsimp)
    | (refine zax h4 ?_;push_cast -dsimp)
    | (refine call h5 ?_;push_cast -dsimp)
    | (refine zax h5 ?_;push_cast -dsimp)
    | (refine br (fun h=>?_) (fun h=>?_)<;>push_cast -dsimp [h])
    | (refine ⟨[],rfl,rfl,?_⟩;push_cast -dsimp [zb,za,CLe,zd];clear h1 h2 h3 h4 h5;simp_all [yo,kX,zpD]<;>omega))
end
section
structure z8 where
 dir:Int
 name:List UInt8
 ino:Int
deriving DecidableEq,Inhabited
structure zL where
 slot:Int
 ino:Int
 content:Bool
 data:List UInt8
deriving DecidableEq,Inhabited
structure qA where
 fs:FsV
 kept:List zL
 pool:List zm
deriving DecidableEq,Inhabited
def jb:z8:=⟨0,[],0⟩
def zlg:zL:=⟨0,0,false,[]⟩
abbrev Xv (es:List zX):Prop:=qx Xc zX.name es
def Qp (n:List UInt8) (es:List zX):Bool:=YN zX.name n es
def zR (n:List UInt8) (es:List zX):Int:=match jP zX.name n es with | some e=>e.ino | none=>0
def zg (n:List UInt8) (es:List zX):List zX:=Xd zX.name n es
def zmw (n:List UInt8) (i:Int) (es:List zX):List zX:=kW Xc zX.name ⟨n,i⟩ (Xd zX.name n es)
def atW (xs:List zm):List (List UInt8)->z8->z8×Int
 | [],s=>(s,0)
 | n :: r,s=>if s.ino=0 then (jb,1) else if (zf s.ino xs).kind≠2 then (jb,3) else atW xs r ⟨(zf s.ino xs).ino,n,zR n (zf s.ino xs).es⟩
def atV (f:FsV) (p:List UInt8):z8×Int:=if Yc p then atW f.xs (zr p) ⟨0,[],1⟩ else (jb,9)
def znB (f:FsV) (n b:Int):Bool:=decide (f.xs.length+n<=f.maxI)&&decide (qm f.xs+b<=f.maxB)
def jr (d:Int) (es:List zX->List zX) (xs:List zm):List zm:=qZ { zf d xs with es:=es (zf d xs).es } xs
def zrn (f:FsV) (s:z8) (k:Int) (t:List UInt8):FsV:={ f with next:=f.next+1,xs:=qZ ⟨f.next,k,1,t,if k=2 then s.dir else 0,[]⟩ (jr s.dir (zmw s.name f.next) f.xs) }
def zrf (f:FsV) (s:z8) (k:Int) (t:List UInt8):FsV×Int:=
 if may s.name then (if znB f 1 (if k=1 then (t.length:Int) else 0) then (zrn f s k t,0) else (f,8)) else (f,9)
def zk (f:FsV) (s:z8):FsV:=
 if (zf s.ino f.xs).links-1=0 then { f with xs:=zS s.ino (jr s.dir (zg s.name) f.xs) }
 else { f with xs:=qZ { zf s.ino f.xs with links:=(zf s.ino f.xs).links-1 } (jr s.dir (zg s.name) f.xs) }
def zpV (f:FsV) (s:z8) (i:Int):FsV:={ f with xs:=qZ { zf i f.xs with links:=(zf i f.xs).links+1 } (jr s.dir (zmw s.name i) f.xs) }
def zqO (f:FsV) (a b:z8):FsV:=
 let g:=jr b.dir (zmw b.name a.ino) (jr a.dir (zg a.name) f.xs)
 if (zf a.ino g).kind=2 then { f with xs:=qZ { zf a.ino g with parent:=b.dir } g } else { f with xs:=g }
def zpU (f:FsV) (i:Int) (t:List UInt8):FsV:={ f with xs:=qZ { zf i f.xs with data:=t } f.xs }
def zkX (f:FsV) (i:Int) (t:List UInt8):FsV×Int:=
 if znB f 0 ((t.length:Int)-(zf i f.xs).data.length) then (zpU f i t,0) else (f,8)
def MQ (n:Int) (ks:List zL):Bool:=YN zL.slot n ks
def qn (k:zL) (ks:List zL):List zL:=kW jG zL.slot k ks
def j8 (w:qA) (n:Int) (s:z8):qA×Int:=
 if MQ n w.kept then (w,13)
 else (⟨zk w.fs s,qn ⟨n,s.ino,false,[]⟩ w.kept,if (zf s.ino w.fs.xs).links=1 then qZ { zf s.ino w.fs.xs with links:=0,parent:=0 } w.pool else w.pool⟩,0)
def Ur (w:qA) (n i:Int):qA×Int:=
 if MQ n w.kept then (w,13) else ({ w with kept:=qn ⟨n,i,true,(zf i w.fs.xs).data⟩ w.kept },0)
def isV (f:FsV) (p:List UInt8) (want:Bool):z8×zm×Int:=
 let a:=atV f p
 (a.1,zf a.1.ino f.xs,if a.2≠0 then a.2 else if want&&!zw a.1.ino f.xs then 1 else if !want&&zw a.1.ino f.xs then 2 else 0)
def Y9 (f:FsV) (p:List UInt8):zm×Int:=
 let a:=isV f p true
 (a.2.1,if a.2.2≠0 then a.2.2 else if a.2.1.kind=2 then 4 else if a.2.1.kind=3 then 9 else 0)
def zki (w:qA) (p:List UInt8) (k:Int) (t:List UInt8):qA×Int:=
 if (isV w.fs p false).2.2≠0 then (w,(isV w.fs p false).2.2) else ({ w with fs:=(zrf w.fs (isV w.fs p false).1 k t).1 },(zrf w.fs (isV w.fs p false).1 k t).2)
def zl8 (w:qA) (o:OpV):qA×Int:=
 if (Y9 w.fs o.a).2≠0 then (w,(Y9 w.fs o.a).2) else zki w o.b 1 (Y9 w.fs o.a).1.data
def zhi (w:qA) (o:OpV):qA×Int:=
 if (Y9 w.fs o.a).2≠0 then (w,(Y9 w.fs o.a).2)
 else if (Y9 w.fs o.b).2≠0 then (w,(Y9 w.fs o.b).2)
 else if (Y9 w.fs o.a).1.ino=(Y9 w.fs o.b).1.ino then (w,9)
 else if (Ur w o.slot (Y9 w.fs o.b).1.ino).2≠0 then (w,(Ur w o.slot (Y9 w.fs o.b).1.ino).2)
 else if (zkX w.fs (Y9 w.fs o.b).1.ino (Y9 w.fs o.a).1.data).2≠0 then (w,(zkX w.fs (Y9 w.fs o.b).1.ino (Y9 w.fs o.a).1.data).2)
 else ({ (Ur w o.slot (Y9 w.fs o.b).1.ino).1 with fs:=(zkX w.fs (Y9 w.fs o.b).1.ino (Y9 w.fs o.a).1.data).1 },0)
def zmo (w:qA) (o:OpV):qA×Int:=
 let a:=isV w.fs o.a true
 if a.2.2≠0 then (w,a.2.2) else if a.2.1.kind=2 then (w,11)
 else if (isV w.fs o.b false).2.2≠0 then (w,(isV w.fs o.b false).2.2)
 else ({ w with fs:=zpV w.fs (isV w.fs o.b false).1 a.2.1.ino },0)
def zpx (w:qA) (o:OpV):qA×Int:=
 if (isV w.fs o.a true).2.2≠0 then (w,(isV w.fs o.a true).2.2)
 else if (isV w.fs o.b false).2.2≠0 then (w,(isV w.fs o.b false).2.2)
 else ({ w with fs:=zqO w.fs (isV w.fs o.a true).1 (isV w.fs o.b false).1 },0)
def qQ (w:qA) (o:OpV):qA×Int:=
 let a:=isV w.fs o.a true
 if a.2.2≠0 then (w,a.2.2) else if a.2.1.es≠[] then (w,5) else j8 w o.slot a.1
def doV (w:qA) (o:OpV):qA×Int:=
 if !yo o then (w,12)
 else if o.kind=1 then zki w o.a 2 []
 else if o.kind=2 then zl8 w o
 else if o.kind=3 then zhi w o
 else if o.kind=4 then zki w o.a 3 o.d
 else if o.kind=5 then zmo w o
 else if o.kind=6 then zpx w o
 else qQ w o
def jz (ks:List zL):Int:=match ks.getLast? with | some k=>k.slot | none=>0
structure zK where
 w:qA
 ops:List OpV
 diags:List (List UInt8)
 status:Int
 slot:Int
deriving DecidableEq,Inhabited
def HX (w:qA):zK:=⟨w,[],[],0,jz w.kept⟩
def U1 (d:zK) (o:OpV):OpV:={ o with slot:=if o.kind=3∨o.kind=7 then d.slot+1 else 0 }
def Ze (d:zK) (o:OpV):zK×Int:=
 if 7<o.kind then (d,12)
 else if (doV d.w (U1 d o)).2≠0 then (d,(doV d.w (U1 d o)).2)
 else (⟨(doV d.w (U1 d o)).1,d.ops++[U1 d o],d.diags,d.status,if 0<(U1 d o).slot then (U1 d o).slot else d.slot⟩,0)
end
section
open CA CB
open Go.RowKit
theorem uD (a b:List UInt8):Fun Tryz.prog G0 182 [.str a,.str b] (.sc (.int .i64 (Lib.compareBytes a b))) 0:=by
 refine Fun.wrap (by kernel_rfl) fun R vs h=>?_
 obtain ⟨v1,us1,rfl,h1,h⟩:=ze.1 h
 obtain ⟨v2,us2,rfl,h2,h⟩:=ze.1 h
 rw[zi]at h
 subst h
 rw[zM]at h1 h2
 subst h1 h2
 refine (Tryz.strings_Compare ⟨a.toArray⟩ ⟨b.toArray⟩ R.w).mono ?_
 rintro e w' ⟨rfl,rfl⟩
 exact ⟨_,rfl,Below.refl _ _,fun R' _=>zl.2 (by simp)⟩
section
variable {G:zn}
theorem vo (e:zX) (n:List UInt8):Fun Tryz.prog G 181 [.agg (zjg e),.str n] (.sc (.int .i64 (Lib.compareBytes e.name n))) 0:=by
 have h:=(uD e.name n).glob0 (G':=G)
 refine fon Tryz.func181 ?_;dsimp only[Tryz.f181]
 push_cast -dsimp
 refine cl (h) ?_;push_cast -dsimp
 exact dn
theorem Ms (es:List zX) (n:List UInt8) (hl:es.length<=100000) (hR:qx Xc zX.name es) :
  Fun Tryz.prog G 180 [.sl 2 (qe es),.str n,.clo (.func 181) [] []] (.tup [.sc (.int .i64 (qk Xc zX.name n es:Nat)),.sc (.bool (YN zX.name n es))]) 0:=by
 refine fon Tryz.func180 ?_;dsimp only[Tryz.f180]
 push_cast -dsimp
 refine loop (fun p:Nat×Nat=>⟨[(0,.sl 2 (qe es)),(1,.str n),(2,.clo (.func 181) [] []),(8,.sc (.int .i64 (es.length:Nat))),(9,.sc (.int .i64 p.1)),(10,.sc (.int .i64 p.2))],[],0,0⟩)
  (fun p=>p.1<=p.2/\p.2<=es.length/\(∀ t (h:t<es.length),t<p.1->(Xc).lt (zX.name es[t]) n=true)/\∀ t (h:t<es.length),p.2<=t->(Xc).lt (zX.name es[t]) n=false) (fun p=>p.2-p.1) (0,es.length) ⟨Nat.zero_le _,Nat.le_refl _,fun t _ h=>by (simp at h),fun t h h'=>by (dsimp only at h';omega)⟩ ?_ ?_
 ·exact wk (by push_cast -dsimp [zb,za,CLe,zd,List.length_map])
 ·rintro ⟨i,j⟩ ⟨h1,h2,h3,h4⟩
  dsimp only at h1 h2 h3 h4 ⊢
  by_cases h:i<j
  ·obtain ⟨m,hm⟩:∃ m,m=(i+j) / 2:=⟨_,rfl⟩
   have hmi:((i:Int)+(j:Int)) / 2=(m:Int):=by omega
   have hml:m<es.length:=by omega
   have hat:=Jy es m hml
   have hlt:=(zdP es[m].name n).to_iff
   push_cast -dsimp [h,hmi,hat]
   repeat refine an ?_
   refine cl ((vo es[m] n)) ?_;push_cast -dsimp
   cases hc:(Xc).lt (zX.name es[m]) n with
   | true =>
    have hcv:(Lib.compareBytes es[m].name n<0)=True:=eq_true (hlt.mpr hc)
    push_cast -dsimp [hcv]
    repeat refine an ?_
    refine ⟨(m+1,j),⟨by omega,h2,fun t ht hlt2=>?_,h4⟩,by dsimp only;omega,wk⟩
    dsimp only at hlt2
    rcases Nat.lt_or_ge t m with q | q
    ·exact (Xc).tr ((List.pairwise_iff_getElem.1 hR) t m ht hml q) hc
    ·have:t=m:=by omega
     subst this;exact hc
   | false =>
    have hcv:(Lib.compareBytes es[m].name n<0)=False:=eq_false (fun e=>by have h7:(Xc).lt (zX.name es[m]) n=true:=hlt.mp e;rw[hc]at h7;cases h7)
    push_cast -dsimp [hcv]
    repeat refine an ?_
    refine ⟨(i,m),⟨by omega,by omega,h3,fun t ht hge=>?_⟩,by dsimp only;omega,wk⟩
    dsimp only at hge
    rcases Nat.lt_or_ge m t with q | q
    ·cases h9:(Xc).lt (zX.name es[t]) n with
     | false=>rfl
     | true=>have:=(Xc).tr ((List.pairwise_iff_getElem.1 hR) m t hml ht q) h9;rw[hc]at this;cases this
    ·have:t=m:=by omega
     subst this;exact hc
  ·have hij:i=j:=by omega
   subst hij
   have hrk:=QH (o:=Xc) (key:=zX.name) n es i h2 h3 h4
   push_cast -dsimp [h]
   refine br (fun hx=>?_) (fun hx=>?_)
   ·have hx:i<es.length:=by simpa using hx
    have hat:=Jy es i hx
    have hh:=yD n hR hrk hx
    push_cast -dsimp [hx,hat]
    repeat refine an ?_
    refine cl ((vo es[i] n)) ?_;push_cast -dsimp
    have hcv:decide (Lib.compareBytes es[i].name n=0)=YN zX.name n es:=by
     rw[hh]
     exact decide_eq_decide.2 (zcy es[i].name n).to_iff
    push_cast -dsimp [hcv]
    exact dn (by push_cast -dsimp [zb,za,CLe,zd,hrk])
   ·have hx:¬i<es.length:=by simpa using hx
    have hh:=HZ n hR (by omega)
    push_cast -dsimp [hx]
    exact dn (by push_cast -dsimp [zb,za,CLe,zd,hrk,hh])
theorem zd6 (es:List zX) (n:List UInt8) (hl:es.length<=100000) (hR:Xv es):Fun Tryz.prog G 154 [.sl 2 (qe es),.str n] (.tup [.sc (.int .i64 (qk Xc zX.name n es:Nat)),.sc (.bool (YN zX.name n es))]) 0:=by
 refine fon Tryz.func154 ?_;dsimp only[Tryz.f154]
 push_cast -dsimp
 refine cl (Ms es n hl hR) ?_;push_cast -dsimp
 exact dn
theorem Nb (es:List zX) (n:List UInt8) (hl:es.length<=100000) (hR:Xv es):Fun Tryz.prog G 111 [.sl 2 (qe es),.str n] (.tup [.sc (.int .i64 (zR n es)),.sc (.bool (Qp n es))]) 0:=by
 obtain ⟨_,_,h3,h4⟩:=UQ n hR
 have h:=zd6 (G:=G) es n hl hR
 cases hh:YN zX.name n es with
 | false =>
  have hf:zR n es=0:=by unfold zR;rw[(h4 hh).1]
  have he:Qp n es=false:=hh
  rw[hh]at h
  refine fon Tryz.func111 ?_;dsimp only[Tryz.f111]
  push_cast -dsimp
  refine cl (h) ?_;push_cast -dsimp
  exact dn (by push_cast -dsimp [zb,za,CLe,zd,hf,he])
 | true =>
  obtain ⟨hlt,_,g2,_⟩:=h3 hh
  have hf:zR n es=es[qk Xc zX.name n es].ino:=by unfold zR;rw[g2]
  have he:Qp n es=true:=hh
  have hat:=Jy es _ hlt
  rw[hh]at h
  refine fon Tryz.func111 ?_;dsimp only[Tryz.f111]
  push_cast -dsimp
  refine cl (h) ?_;push_cast -dsimp [hat]
  repeat refine an ?_
  exact dn (by push_cast -dsimp [zb,za,CLe,zd,hf,he])
end
end
section
open CA CB
open Go.RowKit
section
variable {G:zn}
theorem HD {es:List zX}:∀ r∈qe es,r.length=2:=fun r hr=>by
 obtain ⟨x,_,rfl⟩:=List.mem_map.1 hr;rfl
theorem zb5 {es:List zX}:jo (qe es):=fun r hr=>by
 obtain ⟨x,_,rfl⟩:=List.mem_map.1 hr;rfl
end
end
section
open CA CB
open Go.RowKit
section
variable {G:zn}
theorem zjT {A B Z:List C} {r k:Nat} (hA:A.length=r*2) (hB:B.length=(k-r)*2) (hZ:Z.length=k*2) (hr:r<=k):spl (A++Z.drop (r*2)) (r*2) (B.take ((k-r)*2))=A++B:=by
 unfold spl
 rw[List.take_of_length_le (l:=B) (by omega),List.take_append_of_le_length (by omega),List.take_of_length_le (l:=A) (by omega),List.drop_of_length_le (l:=A++Z.drop (r*2)) (by rw[List.length_append,List.length_drop];omega),List.append_nil]
theorem Mb (es:List zX) (n:List UInt8) (hl:es.length<=90000) (hR:Xv es) (hh:YN zX.name n es=true) :
  Fun Tryz.prog G 245 [.sl 2 (qe es),.str n] (.own 0 100 2 (qe (zg n es))) 1:=by
 obtain ⟨_,_,h3,h4⟩:=UQ n hR
 have hll:(qe es).length=es.length:=List.length_map ..
 have hat:=zd6 (G:=G) es n (by omega) hR
 have hrl:=VH (o:=Xc) (key:=zX.name) n es
 rw[hh]at hat
 obtain ⟨hlt,g1,g2,g3,g4⟩:=h3 hh
 have hw:zg n es=es.take (qk Xc zX.name n es)++es.drop (qk Xc zX.name n es+1):=g3
 obtain ⟨k,hk⟩:∃ k,es.length=k+1:=⟨es.length-1,by omega⟩
 have hkc:(qe es).length=k+1:=by omega
 have hn:((qe es).length:Int)-1=(k:Int):=by omega
 have hwl:(zg n es).length=k:=by rw[hw];simp;omega
 generalize qk Xc zX.name n es=r at *
 have hm:min r k=r:=by omega
 rcases Nat.eq_zero_or_pos k with h1 | h1
 ·subst h1
  obtain rfl:r=0:=by omega
  have hn:((qe es).length:Int)-1=0:=hn
  have hwe:zg n es = []:=List.length_eq_zero_iff.1 hwl
  refine fof (fun i=>if i=5 then Ga [(0,.pure),(1,.pure),(2,.pure),(3,.pure),(4,.pure),(7,.pure),(8,.pure),(9,.pure),(10,.pure),(5,.flt [0,5,6,7,8]),(6,.pure),(11,.bar)] else []) Tryz.func245 ?_;dsimp only[Tryz.f245]
  push_cast -dsimp
  refine cl (hat) ?_;push_cast -dsimp [hn,Int.toNat_zero]
  refine ⟨by omega,by omega,zph (m:=0) (xs:=[]) zd1 Ne rfl rfl (fun _ _ _ _ _ h=>by cases h) rfl ?_⟩
  push_cast -dsimp
  have hd:(qe es).drop 1 = []:=List.drop_of_length_le (by omega)
  rw[hd]
  refine ⟨⟨by split<;>first | omega | trivial,by split<;>first | omega | trivial⟩,zph (m:=0) (xs:=[]) zd1 Ne rfl rfl (fun _ _ _ _ _ h=>by cases h) rfl ?_⟩
  push_cast -dsimp
  exact ⟨[.inl 0],rfl,rfl,by push_cast -dsimp [zb,za,CLe,zd,hwe]⟩
 ·refine foF (fun i=>if i=5 then Ga [(0,.pure),(1,.pure),(2,.pure),(3,.pure),(4,.pure),(7,.pure),(8,.pure),(9,.pure),(10,.pure),(5,.flt [0,5,6,7,8]),(6,.pure),(11,.bar)] else if i=1000000+51 then [true,true] else []) Tryz.func245 ?_;dsimp only[Tryz.f245]
  push_cast -dsimp
  refine cl (hat) ?_;push_cast -dsimp [hn,Int.toNat_natCast]
  have hA:((qe es).take r).flatten.length=r*2:=by
   rw[qp (k:=2) fun x hx=>HD x (List.mem_of_mem_take hx),List.length_take,hkc,Nat.min_eq_left (by omega)]
  have hB:((qe es).drop (r+1)).flatten.length=(k-r)*2:=by
   rw[qp (k:=2) fun x hx=>HD x (List.mem_of_mem_drop hx),List.length_drop,hkc];omega
  have hZ:((List.replicate k [C.str [],C.sc (.int .i64 0)]).flatten).length=k*2:=by simp
  refine ⟨⟨by omega,by omega⟩,by omega,by omega,by omega,by omega,⟨by omega,by omega⟩,⟨by omega,by omega⟩,⟨by omega,by omega⟩,zkv (m:=r) (xs:=((qe es).take r).flatten) zd1 Ne (by simp[C.xs?,C.rows?,hkc];omega) rfl hA (by rw[hZ];omega) ?_⟩
  rw[hm]
  push_cast -dsimp
  have hS:spl (List.replicate k [C.str [],C.sc (.int .i64 0)]).flatten 0 (((qe es).take r).flatten.take (r*2))=((qe es).take r).flatten++((List.replicate k [C.str [],C.sc (.int .i64 0)]).flatten).drop (r*2):=by
   unfold spl
   rw[List.take_zero,List.nil_append,Nat.zero_add,List.take_of_length_le (by omega),hA]
  have hm2:min (k-r) (k-r)=k-r:=Nat.min_self _
  rw[hS]
  refine ⟨⟨by split<;>first | exact ⟨by omega,by omega⟩ | trivial,by split<;>first | exact ⟨by omega,by omega⟩ | trivial,by split<;>first | exact ⟨by omega,by omega⟩ | trivial⟩,Nat.le_refl _,⟨by omega,by omega⟩,zkv (m:=k-r) (xs:=((qe es).drop (r+1)).flatten) zd1 Ne (by simp[C.xs?,C.rows?,hkc]) rfl hB (by rw[List.length_append,List.length_drop,hA,hZ];omega) ?_⟩
  rw[hm2]
  push_cast -dsimp
  have hwc:(qe (zg n es)).length=k:=(List.length_map ..).trans hwl
  have hF:spl (((qe es).take r).flatten++((List.replicate k [C.str [],C.sc (.int .i64 0)]).flatten).drop (r*2)) (r*2) (((qe es).drop (r+1)).flatten.take ((k-r)*2))=qB 2 (qe (zg n es)) k:=by
   rw[zjT hA hB hZ (by omega)]
   unfold qB
   rw[hwc,Nat.sub_self,Nat.zero_mul,hw]
   simp
  rw[hF]
  refine ⟨[(0,100,2,qe (zg n es),k)],[.inl 0],zB rfl h1 (by omega) (by omega) HD zb5,rfl,rfl,?_⟩
  push_cast -dsimp [zb,za,CLe,zd,hwc]
end
end
section
theorem Za (n:Int) (xs:List zm):zw n xs=(X5 n xs).isSome:=by
 unfold zw X5
 induction xs with
 | nil=>rfl
 | cons y r ih =>
  rw[List.any_cons,List.find?_cons]
  cases h:(y.ino==n) with
  | true=>rfl
  | false=>rw[Bool.false_or,ih]
theorem zhe {n:Int} {xs:List zm} {x:zm} (h:X5 n xs=some x):x.ino=n/\x∈xs:=by
 unfold X5 at h
 have h1:=List.find?_some h
 exact ⟨by simpa using h1,List.mem_of_find?_eq_some h⟩
theorem vv (n:Int) (x:zm):∀ xs:List zm,(∀ z∈xs,z.ino≠x.ino)->X5 n (ZC x xs)=if x.ino=n then some x else X5 n xs
 | [],_=>by
  unfold ZC X5
  by_cases h:x.ino=n<;>simp[h]
 | y :: r,hn=>by
  have hy:=hn y List.mem_cons_self
  have ih:=vv n x r fun z hz=>hn z (List.mem_cons_of_mem _ hz)
  unfold X5 at ih ⊢
  unfold ZC
  split
  ·by_cases h:x.ino=n
   ·simp[h]
   ·simp[h,List.find?_cons]
  ·by_cases h:x.ino=n
   ·rw[if_pos h]at ih ⊢
    have hyn:(y.ino==n)=false:=by simp;omega
    rw[List.find?_cons,hyn];exact ih
   ·rw[if_neg h]at ih ⊢
    rw[List.find?_cons,List.find?_cons,ih]
theorem Q6 (n m:Int):∀ xs:List zm,X5 n (zS m xs)=if n=m then none else X5 n xs
 | []=>by unfold X5 zS;simp
 | y :: r=>by
  have ih:=Q6 n m r
  by_cases hy:y.ino=m
  ·rw[Ji hy,ih]
   by_cases h:n=m
   ·rw[if_pos h,if_pos h]
   ·rw[if_neg h,if_neg h]
    have hyn:(y.ino==n)=false:=by simp;omega
    unfold X5
    rw[List.find?_cons,hyn]
  ·rw[Je hy]
   unfold X5 at ih ⊢
   rw[List.find?_cons,List.find?_cons,ih]
   by_cases h:n=m
   ·have hyn:(y.ino==n)=false:=by simp;omega
    simp only[hyn,if_pos h]
   ·simp only[if_neg h]
theorem zlf {n:Int} {xs:List zm}:∀ z∈zS n xs,z.ino≠n:=fun z hz=>by
 unfold zS at hz
 simpa using (List.mem_filter.1 hz).2
theorem vp (n:Int) (x:zm) (xs:List zm):X5 n (qZ x xs)=if x.ino=n then some x else X5 n xs:=by
 unfold qZ
 rw[vv n x _ zlf,Q6]
 by_cases h:x.ino=n
 ·rw[if_pos h,if_pos h]
 ·rw[if_neg h,if_neg h,if_neg (fun e=>h e.symm)]
theorem VD (n:Int) (x:zm) (xs:List zm):zw n (qZ x xs)=(decide (x.ino=n)||zw n xs):=by
 rw[Za,vp,Za]
 by_cases h:x.ino=n<;>simp[h]
theorem Yj (n m:Int) (xs:List zm):zw n (zS m xs)=(!decide (n=m)&&zw n xs):=by
 rw[Za,Q6,Za]
 by_cases h:n=m<;>simp[h]
def JO (g:zm->Nat) (xs:List zm):Nat:=(xs.map g).sum
theorem Xj (g:zm->Nat) {n:Int}:∀ {xs:List zm},z7 xs->JO g xs=JO g (zS n xs)+(match X5 n xs with | some x=>g x | none=>0)
 | [],_=>rfl
 | y :: r,hR=>by
  obtain ⟨h1,h2⟩:=j0.1 hR
  have ih:=Xj g (n:=n) h2
  unfold JO at ih ⊢
  by_cases hy:y.ino=n
  ·have hb:zw n r=false:=Uw fun z hz=>by have:=h1 z hz;omega
   have hg:X5 n (y :: r)=some y:=by unfold X5;rw[List.find?_cons_of_pos (by simpa using hy)]
   rw[hg,Ji hy,Qq hb]
   simp;omega
  ·have hg:X5 n (y :: r)=X5 n r:=by unfold X5;rw[List.find?_cons_of_neg (by simpa using hy)]
   rw[hg,Je hy]
   simp only[List.map_cons,List.sum_cons]
   omega
theorem vu (g:zm->Nat) (x:zm):∀ xs:List zm,JO g (ZC x xs)=JO g xs+g x
 | []=>by unfold ZC JO;simp
 | y :: r=>by
  have ih:=vu g x r
  unfold JO at ih ⊢
  unfold ZC
  split
  ·simp;omega
  ·simp only[List.map_cons,List.sum_cons];omega
theorem Vz (g:zm->Nat) {x:zm} {xs:List zm} (hR:z7 xs):JO g (qZ x xs)+(match X5 x.ino xs with | some y=>g y | none=>0)=JO g xs+g x:=by
 unfold qZ
 rw[vu,Xj g (n:=x.ino) hR]
 omega
end
section
def kz (n:Int) (x:zm):Nat:=(x.es.filter fun e=>decide (e.ino=n)).length
def Vm (n:Int) (xs:List zm):Nat:=JO (kz n) xs
structure FsI (f:FsV):Prop where
 rises:z7 f.xs
 ino:∀ x∈f.xs,1<=x.ino/\x.ino<f.next
 kind:∀ x∈f.xs,x.kind=1∨x.kind=2∨x.kind=3
 es:∀ x∈f.xs,Xv x.es
 file:∀ x∈f.xs,x.kind≠2->x.es = []
 led:∀ x∈f.xs,∀ e∈x.es,zw e.ino f.xs=true
 links:∀ x∈f.xs,x.links=(Vm x.ino f.xs:Int)
 root:zw 1 f.xs=true
 base:(zf 1 f.xs).kind=2
 bare:Vm 1 f.xs=0
theorem zh {n:Int} {xs:List zm} (h:zw n xs=true):X5 n xs=some (zf n xs)/\zf n xs∈xs/\(zf n xs).ino=n:=by
 rw[Za]at h
 obtain ⟨x,hx⟩:=Option.isSome_iff_exists.1 h
 have e:zf n xs=x:=by unfold zf;rw[hx];rfl
 obtain ⟨h1,h2⟩:=zhe hx
 rw[e]
 exact ⟨hx,h2,h1⟩
theorem Yf {n:Int} {xs:List zm} (h:zw n xs=false):X5 n xs=none/\zf n xs=xo:=by
 have h1:=Gj h
 exact ⟨h1,by unfold zf;rw[h1];rfl⟩
theorem Yz (n:Int) (x:zm) (xs:List zm):zf n (qZ x xs)=if x.ino=n then x else zf n xs:=by
 unfold zf
 rw[vp]
 split<;>rfl
theorem Q4 (n m:Int) (xs:List zm):zf n (zS m xs)=if n=m then xo else zf n xs:=by
 unfold zf
 rw[Q6]
 split<;>rfl
theorem YP {x z:zm} {xs:List zm}:z∈qZ x xs↔z=x∨(z∈xs/\z.ino≠x.ino):=by
 unfold qZ
 rw[HU]
 unfold zS
 simp
theorem Yk {n:Int} {z:zm} {xs:List zm}:z∈zS n xs↔z∈xs/\z.ino≠n:=by
 unfold zS
 simp
theorem JR {x:zm} {xs:List zm} (h:x∈xs):zw x.ino xs=true:=by
 unfold zw
 exact List.any_eq_true.2 ⟨x,h,by simp⟩
theorem Nt {α κ:Type} [DecidableEq κ] {o:zkg κ} {key:α->κ} (p:α->Bool) {n:κ} {xs:List α} (hR:qx o key xs) {e:α} (h:jP key n xs=some e):(xs.filter p).length=((Xd key n xs).filter p).length+if p e then 1 else 0:=by
 obtain ⟨_,_,h3,h4⟩:=UQ n hR
 cases hh:YN key n xs with
 | false=>rw[(h4 hh).1]at h;cases h
 | true =>
  obtain ⟨g,_,g2,g3,_⟩:=h3 hh
  rw[g2]at h
  simp only[Option.some.injEq]at h
  have e0:xs=xs.take (qk o key n xs)++e :: xs.drop (qk o key n xs+1):=by
   rw[←h,←List.drop_eq_getElem_cons g,List.take_append_drop]
  rw[g3]
  conv=>lhs;rw[e0]
  rw[List.filter_append,List.filter_append,List.filter_cons]
  cases hp:p e<;>simp<;>omega
theorem ql {α κ:Type} [DecidableEq κ] {key:α->κ} {n:κ} {xs:List α} {e:α} (h:jP key n xs=some e):key e=n/\e∈xs:=by
 unfold jP at h
 exact ⟨by have:=List.find?_some h;simpa using this,List.mem_of_find?_eq_some h⟩
theorem js {α κ:Type} [DecidableEq κ] {key:α->κ} {n:κ} {xs:List α}:YN key n xs=(jP key n xs).isSome:=by
 unfold YN jP
 induction xs with
 | nil=>rfl
 | cons y r ih =>
  rw[List.any_cons,List.find?_cons]
  cases h:decide (key y=n) with
  | true=>rfl
  | false=>rw[Bool.false_or,ih]
theorem zcG {n m:Int} {x:zm} {xs:List zm} (hR:z7 xs) (hh:zw n xs=true) (hx:x.ino=n):Vm m (qZ x xs)+kz m (zf n xs)=Vm m xs+kz m x:=by
 have h:=Vz (kz m) (x:=x) hR
 rw[hx,(zh hh).1]at h
 exact h
theorem zha {n m:Int} {xs:List zm} (hR:z7 xs) (hh:zw n xs=true):Vm m xs=Vm m (zS n xs)+kz m (zf n xs):=by
 have h:=Xj (kz m) (n:=n) hR
 rw[(zh hh).1]at h
 exact h
theorem ut {n:Int} {xs:List zm} (h:Vm n xs=0):∀ x∈xs,∀ e∈x.es,e.ino≠n:=fun x hx e he hn=>by
 unfold Vm JO at h
 rw[List.sum_eq_zero_iff_forall_eq_nat]at h
 have:=h _ (List.mem_map_of_mem hx)
 unfold kz at this
 rw[List.length_eq_zero_iff,List.filter_eq_nil_iff]at this
 exact this e he (by simpa using hn)
theorem NY {m i:Int} {n:List UInt8} {es:List zX} {x:zm} (hR:Xv es) (h:jP zX.name n es=some ⟨n,i⟩):kz m { x with es:=es }=kz m { x with es:=zg n es }+if i=m then 1 else 0:=by
 unfold zg kz
 have:=Nt (fun e:zX=>decide (e.ino=m)) hR h
 simp only at this ⊢
 rw[this]
 by_cases hi:i=m<;>simp[hi]
theorem XF {n:List UInt8} {es:List zX} (h:Qp n es=true):jP zX.name n es=some ⟨n,zR n es⟩:=by
 unfold Qp at h
 rw[js]at h
 obtain ⟨e,he⟩:=Option.isSome_iff_exists.1 h
 have h1:=(ql he).1
 unfold zR
 rw[he]
 cases e with
 | mk a b=>simp at h1 ⊢;exact h1
theorem QQ {n:List UInt8} {es:List zX} (h:Xv es):Xv (zg n es):=xg n h
theorem jB {n:List UInt8} {es:List zX} {e:zX} (h:e∈zg n es):e∈es/\e.name≠n:=zeW.1 h
end
section
structure zq9 (f:FsV) (s:z8):Prop where
 has:zw s.dir f.xs=true
 kind:(zf s.dir f.xs).kind=2
 free:Qp s.name (zf s.dir f.xs).es=false
structure zI (f:FsV) (s:z8):Prop where
 has:zw s.dir f.xs=true
 kind:(zf s.dir f.xs).kind=2
 there:jP zX.name s.name (zf s.dir f.xs).es=some ⟨s.name,s.ino⟩
theorem zI.ino {f:FsV} {s:z8} (hf:FsI f) (h:zI f s):zw s.ino f.xs=true:=by
 have:=hf.led _ (zh h.has).2.1 ⟨s.name,s.ino⟩ (ql h.there).2
 exact this
abbrev jW (d:zm) (es:List zX):zm:={ d with es:=es }
theorem Qi {xs:List zm} {n:Int} {F:List zX->List zX} (hh:zw n xs=true) {z:zm}:z∈jr n F xs↔z=jW (zf n xs) (F (zf n xs).es)∨(z∈xs/\z.ino≠n):=by
 unfold jr
 rw[YP]
 show z=jW _ _∨(z∈xs/\z.ino≠(zf n xs).ino)↔_
 rw[(zh hh).2.2]
theorem JI {xs:List zm} {n m:Int} {F:List zX->List zX} (hh:zw n xs=true):zw m (jr n F xs)=zw m xs:=by
 unfold jr
 rw[VD]
 show (decide ((zf n xs).ino=m)||zw m xs)=_
 rw[(zh hh).2.2]
 by_cases h:n=m
 ·subst h;rw[hh];simp
 ·simp[h]
theorem YC {xs:List zm} {n m:Int} {F:List zX->List zX} (hh:zw n xs=true):zf m (jr n F xs)=if n=m then jW (zf n xs) (F (zf n xs).es) else zf m xs:=by
 unfold jr
 rw[Yz]
 show (if (zf n xs).ino=m then _ else _)=_
 rw[(zh hh).2.2]
theorem zl5 {xs:List zm} {n m:Int} {F:List zX->List zX} (hR:z7 xs) (hh:zw n xs=true):Vm m (jr n F xs)+kz m (zf n xs)=Vm m xs+kz m (jW (zf n xs) (F (zf n xs).es)):=
 zcG hR hh (zh hh).2.2
theorem zkt {f:FsV} (hf:FsI f):1<f.next:=by
 have:=(hf.ino _ (zh hf.root).2.1).2
 rw[(zh hf.root).2.2]at this
 exact this
theorem kK {f:FsV} (hf:FsI f) {s:z8} (hs:zI f s):s.ino≠1:=fun e =>
 ut hf.bare _ (zh hs.has).2.1 _ (ql hs.there).2 e
theorem Uf {f:FsV} (hf:FsI f) {s:z8} (hs:zI f s) (he:(zf s.ino f.xs).es = []):FsI (zk f s):=by
 have hi:=zI.ino hf hs
 have hd:=zh hs.has
 have hx:=zh hi
 have hr:=kK hf hs
 have hne:s.dir≠s.ino:=fun e=>by
  have:=(ql hs.there).2
  rw[e,he]at this
  cases this
 have hR1:z7 (jr s.dir (zg s.name) f.xs):=Jd hf.rises
 have hi1:zw s.ino (jr s.dir (zg s.name) f.xs)=true:=by rw[JI hs.has];exact hi
 have hg1:zf s.ino (jr s.dir (zg s.name) f.xs)=zf s.ino f.xs:=by rw[YC hs.has,if_neg hne]
 have hc1:∀ m,Vm m (jr s.dir (zg s.name) f.xs)+(if s.ino=m then 1 else 0)=Vm m f.xs:=fun m=>by
  have hc:=zl5 (m:=m) (F:=zg s.name) hf.rises hs.has
  have hw:kz m (zf s.dir f.xs)=kz m (jW (zf s.dir f.xs) (zg s.name (zf s.dir f.xs).es))+if s.ino=m then 1 else 0:=NY (m:=m) (i:=s.ino) (x:=zf s.dir f.xs) (hf.es (zf s.dir f.xs) hd.2.1) hs.there
  omega
 have hlk:=hf.links (zf s.ino f.xs) hx.2.1
 rw[hx.2.2]at hlk
 have hci:=hc1 s.ino
 rw[if_pos rfl]at hci
 have hz:∀ m,kz m (zf s.ino f.xs)=0:=fun m=>by unfold kz;rw[he];rfl
 unfold zk
 by_cases hl:(zf s.ino f.xs).links-1=0
 ·rw[if_pos hl]
  have hc0:Vm s.ino (jr s.dir (zg s.name) f.xs)=0:=by omega
  have hcnt:∀ m,Vm m (zS s.ino (jr s.dir (zg s.name) f.xs))=Vm m (jr s.dir (zg s.name) f.xs):=fun m=>by
   have:=zha (m:=m) hR1 hi1
   rw[hg1,hz]at this
   omega
  have hmem:∀ {z:zm},z∈zS s.ino (jr s.dir (zg s.name) f.xs)->(z=jW (zf s.dir f.xs) (zg s.name (zf s.dir f.xs).es)∨(z∈f.xs/\z.ino≠s.dir))/\z.ino≠s.ino:=fun {z} hz=>by
   obtain ⟨hz,hzi⟩:=Yk.1 hz
   exact ⟨(Qi hs.has).1 hz,hzi⟩
  have hin:∀ {z:zm},z∈zS s.ino (jr s.dir (zg s.name) f.xs)->z∈jr s.dir (zg s.name) f.xs:=fun {z} hz=>(Yk.1 hz).1
  refine ⟨U7 hR1,fun x hx'=>?_,fun x hx'=>?_,fun x hx'=>?_,fun x hx' hk2=>?_,fun x hx' e hee=>?_,fun x hx'=>?_,?_,?_,?_⟩
  ·rcases hmem hx' with ⟨rfl | ⟨h,_⟩,_⟩
   ·exact hf.ino (zf s.dir f.xs) hd.2.1
   ·exact hf.ino _ h
  ·rcases hmem hx' with ⟨rfl | ⟨h,_⟩,_⟩
   ·exact hf.kind (zf s.dir f.xs) hd.2.1
   ·exact hf.kind _ h
  ·rcases hmem hx' with ⟨rfl | ⟨h,_⟩,_⟩
   ·exact QQ (hf.es (zf s.dir f.xs) hd.2.1)
   ·exact hf.es _ h
  ·rcases hmem hx' with ⟨rfl | ⟨h,_⟩,_⟩
   ·exact absurd hs.kind hk2
   ·exact hf.file _ h hk2
  ·show zw e.ino (zS _ _)=true
   rw[Yj,JI hs.has]
   have h1:e.ino≠s.ino:=ut hc0 x (hin hx') e hee
   rw[decide_eq_false h1]
   show zw e.ino f.xs=true
   rcases hmem hx' with ⟨rfl | ⟨h,_⟩,_⟩
   ·exact hf.led (zf s.dir f.xs) hd.2.1 e (jB hee).1
   ·exact hf.led _ h e hee
  ·show x.links=((Vm x.ino (zS _ _):Nat):Int)
   rw[hcnt]
   obtain ⟨h1,h2⟩:=hmem hx'
   have h3:=hc1 x.ino
   rw[if_neg fun e=>h2 e.symm]at h3
   have h4:x.links=(Vm x.ino f.xs:Int):=by
    rcases h1 with rfl | ⟨h,_⟩
    ·exact hf.links (zf s.dir f.xs) hd.2.1
    ·exact hf.links _ h
   omega
  ·show zw 1 (zS _ _)=true
   rw[Yj,JI hs.has,hf.root,decide_eq_false fun e=>hr e.symm];rfl
  ·show (zf 1 (zS _ _)).kind=2
   rw[Q4,if_neg fun e=>hr e.symm,YC hs.has]
   split
   ·exact hs.kind
   ·exact hf.base
  ·show Vm 1 (zS _ _)=0
   rw[hcnt]
   have:=hc1 1
   have:=hf.bare
   omega
 ·rw[if_neg hl]
  have hmem:∀ {z:zm},z∈qZ { zf s.ino f.xs with links:=(zf s.ino f.xs).links-1 } (jr s.dir (zg s.name) f.xs)->z = { zf s.ino f.xs with links:=(zf s.ino f.xs).links-1 }∨z=jW (zf s.dir f.xs) (zg s.name (zf s.dir f.xs).es)∨(z∈f.xs/\z.ino≠s.dir/\z.ino≠s.ino):=fun {z} hz=>by
   rcases YP.1 hz with rfl | ⟨hz,hzi⟩
   ·exact .inl rfl
   ·have hzi:z.ino≠(zf s.ino f.xs).ino:=hzi
    rw[hx.2.2]at hzi
    rcases (Qi hs.has).1 hz with rfl | ⟨hz,hzd⟩
    ·exact .inr (.inl rfl)
    ·exact .inr (.inr ⟨hz,hzd,hzi⟩)
  have hhas:∀ m,zw m (qZ { zf s.ino f.xs with links:=(zf s.ino f.xs).links-1 } (jr s.dir (zg s.name) f.xs))=zw m f.xs:=fun m=>by
   rw[VD,JI hs.has]
   show (decide ((zf s.ino f.xs).ino=m)||_)=_
   rw[hx.2.2]
   by_cases h:s.ino=m
   ·rw[←h,hi];simp
   ·simp[h]
  have hcnt:∀ m,Vm m (qZ { zf s.ino f.xs with links:=(zf s.ino f.xs).links-1 } (jr s.dir (zg s.name) f.xs))=Vm m (jr s.dir (zg s.name) f.xs):=fun m=>by
   have h:=zcG (m:=m) (x:={ zf s.ino f.xs with links:=(zf s.ino f.xs).links-1 }) hR1 hi1 hx.2.2
   rw[hg1]at h
   have e:kz m { zf s.ino f.xs with links:=(zf s.ino f.xs).links-1 }=kz m (zf s.ino f.xs):=rfl
   omega
  refine ⟨Jd hR1,fun x hx'=>?_,fun x hx'=>?_,fun x hx'=>?_,fun x hx' hk2=>?_,fun x hx' e hee=>?_,fun x hx'=>?_,by rw[hhas];exact hf.root,?_,?_⟩
  ·rcases hmem hx' with rfl | rfl | ⟨h,_⟩
   ·exact hf.ino (zf s.ino f.xs) hx.2.1
   ·exact hf.ino (zf s.dir f.xs) hd.2.1
   ·exact hf.ino _ h
  ·rcases hmem hx' with rfl | rfl | ⟨h,_⟩
   ·exact hf.kind (zf s.ino f.xs) hx.2.1
   ·exact hf.kind (zf s.dir f.xs) hd.2.1
   ·exact hf.kind _ h
  ·rcases hmem hx' with rfl | rfl | ⟨h,_⟩
   ·exact hf.es (zf s.ino f.xs) hx.2.1
   ·exact QQ (hf.es (zf s.dir f.xs) hd.2.1)
   ·exact hf.es _ h
  ·rcases hmem hx' with rfl | rfl | ⟨h,_⟩
   ·exact he
   ·exact absurd hs.kind hk2
   ·exact hf.file _ h hk2
  ·rw[hhas]
   rcases hmem hx' with rfl | rfl | ⟨h,_⟩
   ·exact hf.led (zf s.ino f.xs) hx.2.1 e hee
   ·exact hf.led (zf s.dir f.xs) hd.2.1 e (jB hee).1
   ·exact hf.led _ h e hee
  ·rw[hcnt]
   rcases hmem hx' with rfl | rfl | ⟨h,_,hzi⟩
   ·show (zf s.ino f.xs).links-1=((Vm (zf s.ino f.xs).ino (jr s.dir (zg s.name) f.xs):Nat):Int)
    rw[hx.2.2];omega
   ·have h3:=hc1 (zf s.dir f.xs).ino
    have h4:=hf.links (zf s.dir f.xs) hd.2.1
    rw[if_neg (by rw[hd.2.2];exact fun e=>hne e.symm)]at h3
    show (zf s.dir f.xs).links=((Vm (zf s.dir f.xs).ino (jr s.dir (zg s.name) f.xs):Nat):Int)
    omega
   ·have h3:=hc1 x.ino
    rw[if_neg fun e=>hzi e.symm]at h3
    have h4:=hf.links _ h
    omega
  ·show (zf 1 (qZ _ _)).kind=2
   rw[Yz,if_neg (show ¬(zf s.ino f.xs).ino=1 by rw[hx.2.2];exact hr),YC hs.has]
   split
   ·exact hs.kind
   ·exact hf.base
  ·rw[hcnt]
   have:=hc1 1
   have:=hf.bare
   omega
end
section
theorem zjE {f:FsV} (hf:FsI f):∀ (ns:List (List UInt8)) (s:z8),(s.ino≠0->zw s.ino f.xs=true)->(atW f.xs ns s).2=0->ns≠[] ->
  zw (atW f.xs ns s).1.dir f.xs=true/\(zf (atW f.xs ns s).1.dir f.xs).kind=2/\(atW f.xs ns s).1.ino=zR (atW f.xs ns s).1.name (zf (atW f.xs ns s).1.dir f.xs).es/\(atW f.xs ns s).1.name∈ns
 | [],s,_,_,h=>absurd rfl h
 | n :: r,s,hs,h0,_=>by
  unfold atW at h0 ⊢
  by_cases h1:s.ino=0
  ·rw[if_pos h1]at h0;cases h0
  rw[if_neg h1]at h0 ⊢
  by_cases h2:(zf s.ino f.xs).kind≠2
  ·rw[if_pos h2]at h0;cases h0
  rw[if_neg h2]at h0 ⊢
  have h2:(zf s.ino f.xs).kind=2:=Classical.not_not.1 h2
  have hg:=zh (hs h1)
  have hnx:zR n (zf s.ino f.xs).es≠0->zw (zR n (zf s.ino f.xs).es) f.xs=true:=fun hne=>by
   have hh:Qp n (zf s.ino f.xs).es=true:=by
    unfold Qp
    rw[js]
    cases hq:jP zX.name n (zf s.ino f.xs).es with
    | some e=>rfl
    | none=>unfold zR at hne;rw[hq]at hne;exact absurd rfl hne
   exact hf.led _ hg.2.1 _ (ql (XF hh)).2
  cases r with
  | nil =>
   unfold atW
   rw[hg.2.2]
   exact ⟨hs h1,h2,rfl,List.mem_cons_self⟩
  | cons m r =>
   obtain ⟨i1,i2,i3,i4⟩:=zjE hf (m :: r) ⟨(zf s.ino f.xs).ino,n,zR n (zf s.ino f.xs).es⟩ hnx h0 (by simp)
   exact ⟨i1,i2,i3,List.mem_cons_of_mem _ i4⟩
theorem zfA {f:FsV} (hf:FsI f):∀ (ns:List (List UInt8)) (s:z8),(s.ino≠0->zw s.ino f.xs=true)->(atW f.xs ns s).1.ino≠0->zw (atW f.xs ns s).1.ino f.xs=true
 | [],s,hs,h=>hs h
 | n :: r,s,hs,h=>by
  unfold atW at h ⊢
  by_cases h1:s.ino=0
  ·rw[if_pos h1]at h;exact absurd rfl h
  rw[if_neg h1]at h ⊢
  by_cases h2:(zf s.ino f.xs).kind≠2
  ·rw[if_pos h2]at h;exact absurd rfl h
  rw[if_neg h2]at h ⊢
  have hg:=zh (hs h1)
  refine zfA hf r _ (fun hne=>?_) h
  have hne:zR n (zf s.ino f.xs).es≠0:=hne
  have hh:Qp n (zf s.ino f.xs).es=true:=by
   unfold Qp
   rw[js]
   cases hq:jP zX.name n (zf s.ino f.xs).es with
   | some e=>rfl
   | none=>unfold zR at hne;rw[hq]at hne;exact absurd rfl hne
  exact hf.led _ hg.2.1 _ (ql (XF hh)).2
end
section
structure xw (w:qA):Prop where
 fs:FsI w.fs
 kept:qx jG zL.slot w.kept
 pool:z7 w.pool
 apart:∀ x∈w.pool,zw x.ino w.fs.xs=false/\x.ino<w.fs.next
theorem UE {f:FsV} (hf:FsI f) {n:Int} (h:zw n f.xs=true):n≠0:=fun e=>by
 have:=(hf.ino _ (zh h).2.1).1
 rw[(zh h).2.2]at this
 omega
theorem yt {f:FsV} (hf:FsI f) {d:Int} (hd:zw d f.xs=true) {n:List UInt8} (h:Qp n (zf d f.xs).es=true):zw (zR n (zf d f.xs).es) f.xs=true:=
 hf.led _ (zh hd).2.1 _ (ql (XF h)).2
theorem zqY {f:FsV} (hf:FsI f) {p:List UInt8} (hp:j9 p=true) (h:(atV f p).2=0) :
  zw (atV f p).1.dir f.xs=true/\(zf (atV f p).1.dir f.xs).kind=2/\(atV f p).1.ino=zR (atV f p).1.name (zf (atV f p).1.dir f.xs).es/\(atV f p).1.name∈zr p:=by
 unfold j9 at hp
 simp only[Bool.and_eq_true,Bool.not_eq_true',decide_eq_false_iff_not]at hp
 unfold atV at h ⊢
 rw[if_pos hp.1]at h ⊢
 exact zjE hf (zr p) ⟨0,[],1⟩ (fun _=>hf.root) h hp.2
theorem vk {f:FsV} (hf:FsI f) {p:List UInt8} (hp:j9 p=true) (h:(isV f p true).2.2=0):zI f (isV f p true).1/\(isV f p true).2.1=zf (isV f p true).1.ino f.xs:=by
 unfold isV at h ⊢
 simp only at h ⊢
 by_cases h0:(atV f p).2≠0
 ·rw[if_pos h0]at h;exact absurd h h0
 rw[if_neg h0]at h
 have h0:(atV f p).2=0:=Classical.not_not.1 h0
 obtain ⟨a1,a2,a3,_⟩:=zqY hf hp h0
 refine ⟨⟨a1,a2,?_⟩,trivial⟩
 have hh:zw (atV f p).1.ino f.xs=true:=by
  cases hq:zw (atV f p).1.ino f.xs with
  | true=>rfl
  | false=>rw[hq]at h;simp at h
 have he:Qp (atV f p).1.name (zf (atV f p).1.dir f.xs).es=true:=by
  unfold Qp
  rw[js]
  cases hq:jP zX.name (atV f p).1.name (zf (atV f p).1.dir f.xs).es with
  | some e=>rfl
  | none =>
   unfold zR at a3
   rw[hq]at a3
   exact absurd a3 (UE hf hh)
 rw[XF he,←a3]
theorem ZE {o:OpV} (h:yo o=true):j9 o.a=true/\(zpD o.kind=true->j9 o.b=true)/\1<=o.kind/\o.kind<=10:=by
 unfold yo at h
 simp only[Bool.and_eq_true,decide_eq_true_eq]at h
 obtain ⟨⟨⟨⟨⟨⟨h1,h2⟩,h3⟩,h4⟩,h5⟩,h6⟩,h7⟩:=h
 exact ⟨h3,fun hb=>by rw[if_pos hb]at h5;exact h5,h1,h2⟩
theorem zmm {k:zL} {ks:List zL} (h:qx jG zL.slot ks) (hn:MQ k.slot ks=false):qx jG zL.slot (qn k ks):=
 ke h fun y hy e=>by
  unfold MQ YN at hn
  rw[List.any_eq_false]at hn
  exact hn y hy (by simpa using e)
theorem XM {f:FsV} {s:z8} (h:zw s.dir f.xs=true) (hi:zw s.ino f.xs=true) (m:Int):zw m (zk f s).xs=if (zf s.ino f.xs).links-1=0 then (!decide (m=s.ino)&&zw m f.xs) else zw m f.xs:=by
 unfold zk
 split
 ·show zw m (zS _ _)=_
  rw[Yj,JI h]
 ·show zw m (qZ _ _)=_
  rw[VD,JI h]
  show (decide ((zf s.ino f.xs).ino=m)||_)=_
  rw[(zh hi).2.2]
  by_cases e:s.ino=m
  ·rw[←e,hi];simp
  ·simp[e]
theorem JB (f:FsV) (s:z8):(zk f s).next=f.next:=by unfold zk;split<;>rfl
theorem y0 {w:qA} (hw:xw w) {n:Int} {s:z8} (hs:zI w.fs s) (he:(zf s.ino w.fs.xs).es = []):xw (j8 w n s).1:=by
 unfold j8
 cases hn:MQ n w.kept with
 | true=>rw[if_pos rfl];exact hw
 | false =>
  rw[if_neg (by simp)]
  have hi:=zI.ino hw.fs hs
  have hg:=zh hi
  have hf:=Uf hw.fs hs he
  refine ⟨hf,zmm hw.kept hn,?_,fun x hx=>?_⟩
  ·show z7 (if _ then _ else _)
   split
   ·exact Jd hw.pool
   ·exact hw.pool
  ·show zw x.ino (zk w.fs s).xs=false/\x.ino<(zk w.fs s).next
   rw[XM hs.has hi,JB]
   have hx:x∈(if (zf s.ino w.fs.xs).links=1 then qZ { zf s.ino w.fs.xs with links:=0,parent:=0 } w.pool else w.pool):=hx
   by_cases h1:(zf s.ino w.fs.xs).links=1
   ·rw[if_pos h1]at hx
    rw[if_pos (by omega)]
    rcases YP.1 hx with rfl | ⟨hx,_⟩
    ·refine ⟨?_,?_⟩
     ·show (!decide ((zf s.ino w.fs.xs).ino=s.ino)&&_)=false
      rw[hg.2.2];simp
     ·exact (hw.fs.ino _ hg.2.1).2
    ·obtain ⟨a1,a2⟩:=hw.apart x hx
     rw[a1,Bool.and_false]
     exact ⟨rfl,a2⟩
   ·rw[if_neg h1]at hx
    rw[if_neg (by omega)]
    exact hw.apart x hx
end
section
def uP (N:Nat) (x:zm):Prop:=x.es.length<=N/\x.data.length<=5000/\∀ e∈x.es,e.name.length<=300
structure zrh (N:Nat) (w:qA):Prop where
 len:w.fs.xs.length<=N
 node:∀ x∈w.fs.xs,uP N x
 klen:w.kept.length<=N
 kdata:∀ k∈w.kept,k.data.length<=5000
 plen:w.pool.length<=N
 pnode:∀ x∈w.pool,uP N x
 next:w.fs.next<=1099511627776+N
 room:w.fs.maxI<=1073741824/\w.fs.maxB<=1073741824/\-1073741824<=w.fs.maxI/\-1073741824<=w.fs.maxB
theorem zfS {n:List UInt8} (h:may n=true):n.length<=255:=by
 unfold may at h
 simp only[Bool.and_eq_true,decide_eq_true_eq]at h
 exact h.1.1.1.2
theorem GX {N:Nat} {x:zm} (h:uP N x) (n:List UInt8):uP N (jW x (zg n x.es)):=by
 refine ⟨?_,h.2.1,fun e he=>h.2.2 e (jB he).1⟩
 have:=zcK (key:=zX.name) n x.es
 have:=h.1
 show (Xd zX.name n x.es).length<=N
 omega
theorem vB {N:Nat} {xs:List zm} (h:∀ x∈xs,uP N x) {n:Int} (hh:zw n xs=true):uP N (zf n xs):=h _ (zh hh).2.1
theorem zmb {N:Nat} {xs:List zm} {x:zm} (h:∀ x∈xs,uP N x) (hx:uP N x):∀ z∈qZ x xs,uP N z:=fun z hz=>by
 rcases YP.1 hz with rfl | ⟨hz,_⟩
 ·exact hx
 ·exact h z hz
theorem QN {x:zm} {xs:List zm} (hR:z7 xs) (hh:zw x.ino xs=true):(qZ x xs).length=xs.length:=by rw[←yz hR hh];simp
theorem Ut {xs:List zm} {n:Int} {F:List zX->List zX} (hR:z7 xs) (hh:zw n xs=true):(jr n F xs).length=xs.length:=by
 unfold jr
 refine QN hR ?_
 show zw (zf n xs).ino xs=true
 rw[(zh hh).2.2];exact hh
theorem GQ (k:zL) (ks:List zL):(qn k ks).length=ks.length+1:=Hs k ks
theorem zk2 {N:Nat} {f:FsV} (hf:FsI f) (h1:f.xs.length<=N) (h2:∀ x∈f.xs,uP N x) {s:z8} (hs:zI f s):(zk f s).xs.length<=N/\(∀ x∈(zk f s).xs,uP N x)/\(zk f s).next=f.next/\(zk f s).maxI=f.maxI/\(zk f s).maxB=f.maxB:=by
 have hi:=zI.ino hf hs
 have hd:∀ z∈jr s.dir (zg s.name) f.xs,uP N z:=fun z hz=>by
  rcases (Qi hs.has).1 hz with rfl | ⟨hz,_⟩
  ·exact GX (vB h2 hs.has) _
  ·exact h2 z hz
 have hl:=Ut (F:=zg s.name) hf.rises hs.has
 unfold zk
 split
 ·refine ⟨?_,fun x hx=>hd x (Yk.1 hx).1,rfl,rfl,rfl⟩
  show (zS _ _).length<=N
  exact Nat.le_trans VA (by rw[hl];exact h1)
 ·refine ⟨?_,zmb hd (vB h2 hi),rfl,rfl,rfl⟩
  show (qZ _ _).length<=N
  rw[QN (show z7 (jr s.dir (zg s.name) f.xs) from Jd hf.rises) ?_,hl]
  ·exact h1
  ·show zw (zf s.ino f.xs).ino (jr _ _ _)=true
   rw[(zh hi).2.2,JI hs.has];exact hi
end
section
open CA CB
open Go.RowKit
section
variable {G:zn}
end
end
section
open CA CB
open Go.RowKit
abbrev Vl (s:z8):List C:=[.sc (.int .i64 s.dir),.str s.name,.sc (.int .i64 s.ino)]
theorem FsS.es {f:FsV} (h:FsS f) {n:Int} (hh:zw n f.xs=true):(zf n f.xs).es.length<=10000:=(h.node _ (zh hh).2.1).1
theorem zed {xs:List (List UInt8)} {k:Nat} (h:k<xs.length):(zQ xs)[k]?=some [.str xs[k]]:=by simp[List.getElem?_map,List.getElem?_eq_getElem h]
theorem vV (f:FsV) (hf:FsI f) (hs:FsS f) (p:List UInt8) (hp:p.length<=100000):Fun Tryz.prog G0 179 [.agg (fsC f),.str p] (.tup [.agg (Vl (atV f p).1),.sc (.int .i64 (atV f p).2)]) 0:=by
 have hpl:=GU p (by omega)
 have hlen:=hs.len
 have hnl:(zr p).length<=100000:=by have:=qJ p;omega
 cases hpp:Yc p with
 | false =>
  have e:atV f p=(jb,9):=by unfold atV;rw[hpp];rfl
  unfold Y2 at hpl
  rw[hpp]at hpl
  refine fon Tryz.func179 ?_;dsimp only[Tryz.f179]
  push_cast -dsimp
  refine cl (hpl) ?_;push_cast -dsimp
  exact dn (by push_cast -dsimp [zb,za,CLe,zd,e,jb])
 | true =>
  have e:atV f p=atW f.xs (zr p) ⟨0,[],1⟩:=by unfold atV;rw[hpp];rfl
  unfold Y2 at hpl
  rw[hpp,if_pos rfl]at hpl
  generalize zr p=ns at hpl hnl e
  have hsl:(zQ ns).length=ns.length:=List.length_map ..
  refine fon Tryz.func179 ?_;dsimp only[Tryz.f179]
  push_cast -dsimp
  refine cl (hpl) ?_;push_cast -dsimp
  refine loop (fun x:Nat×z8=>⟨[(1,.str p),(2,.ptr 0 0),(4,.ptr 1 0),(8,.ptr 2 0),(24,.own 0 9 1 (zQ ns)),(25,.sc (.int .i64 (ns.length:Nat))),(26,.sc (.int .i64 x.1))],[fsC f,[.sc (.int .i64 0),.str [],.sc (.int .i64 0)],Vl x.2],1,0⟩)
   (fun x=>x.1<=ns.length/\atW f.xs ns ⟨0,[],1⟩=atW f.xs (ns.drop x.1) x.2/\(x.2.ino≠0->zw x.2.ino f.xs=true)) (fun x=>ns.length-x.1) (0,⟨0,[],1⟩) ⟨Nat.zero_le _,rfl,fun _=>hf.root⟩ ?_ ?_
  ·exact wks [.inl 0] (by push_cast -dsimp [zb,za,CLe,zd,hsl])
  rintro ⟨k,s⟩ ⟨hk,hat,hin⟩
  simp only at hk hat hin ⊢
  by_cases hlt:k<ns.length
  ·have gs:=zed hlt
   have hdr:ns.drop k=ns[k] :: ns.drop (k+1):=List.drop_eq_getElem_cons hlt
   obtain ⟨nm,hnm⟩:∃ nm,ns[k]=nm:=⟨_,rfl⟩
   rw[hnm]at gs hdr
   have hg:=jA (G:=G0) f s.ino (by omega) hf.rises
   cases hh:zw s.ino f.xs with
   | false =>
    have h0:s.ino=0:=Classical.byContradiction fun hne=>by rw[hin hne]at hh;cases hh
    have hr:atV f p=(jb,1):=by rw[e,hat,hdr];unfold atW;rw[if_pos h0]
    rw[hh]at hg
    push_cast -dsimp [hlt,gs]
    repeat refine an ?_
    refine cl (hg) ?_;push_cast -dsimp
    exact dn (by push_cast -dsimp [zb,za,CLe,zd,hr,jb])
   | true =>
    have hn0:s.ino≠0:=UE hf hh
    have hgg:=zh hh
    rw[hh]at hg
    by_cases hk2:(zf s.ino f.xs).kind=2
    ·have hfd:=Nb (G:=G0) (zf s.ino f.xs).es nm (by have:=hs.es hh;omega) (hf.es _ hgg.2.1)
     have hnx:atW f.xs ns ⟨0,[],1⟩=atW f.xs (ns.drop (k+1)) ⟨(zf s.ino f.xs).ino,nm,zR nm (zf s.ino f.xs).es⟩:=by
      rw[hat,hdr]
      conv=>lhs;unfold atW
      rw[if_neg hn0,if_neg (by simp[hk2])]
     have hin2:zR nm (zf s.ino f.xs).es≠0->zw (zR nm (zf s.ino f.xs).es) f.xs=true:=fun hne=>by
      refine yt hf hh ?_
      unfold Qp
      rw[js]
      cases hq:jP zX.name nm (zf s.ino f.xs).es with
      | some e=>rfl
      | none=>unfold zR at hne;rw[hq]at hne;exact absurd rfl hne
     push_cast -dsimp [hlt,gs]
     repeat refine an ?_
     refine cl (hg) ?_;push_cast -dsimp [hk2]
     refine cl (hfd) ?_;push_cast -dsimp
     repeat refine an ?_
     exact ⟨(k+1,⟨(zf s.ino f.xs).ino,nm,zR nm (zf s.ino f.xs).es⟩),⟨hlt,hnx,hin2⟩,by simp only;omega,wks [.inl 0]⟩
    ·have hr:atV f p=(jb,3):=by rw[e,hat,hdr];unfold atW;rw[if_neg hn0,if_pos hk2]
     push_cast -dsimp [hlt,gs]
     repeat refine an ?_
     refine cl (hg) ?_;push_cast -dsimp [hk2]
     exact dn (by push_cast -dsimp [zb,za,CLe,zd,hr,jb])
  ·have hr:atV f p=(s,0):=by rw[e,hat,List.drop_of_length_le (by omega)];unfold atW;rfl
   push_cast -dsimp [hlt]
   exact dn (by push_cast -dsimp [zb,za,CLe,zd,hr])
end
section
open CA CB
open Go.RowKit
abbrev zqp (f:FsV):Prop:=0<=f.next/\f.next<=4000000000000000000
theorem xx {f:FsV} (hf:FsI f):f.xs≠[]:=fun h=>by have:=hf.root;rw[h]at this;cases this
theorem zdO {f:FsV} (hf:FsI f) {n:Int} (hh:zw n f.xs=true):Xv (zf n f.xs).es:=hf.es _ (zh hh).2.1
theorem Fun.argsLe {P:Program} {G:zn} {f:FuncId} {args args':List C} {r:C} {n:Nat} (h:Fun P G f args r n) (ha:∀ R vs,zt R zE args' vs->zt R zE args vs):Fun P G f args' r n:=
 ⟨h.1,fun R vs hg hv=>h.2 R vs hg (ha R vs hv)⟩
theorem zhs {R:Env} {L:Loc} {k:Nat} {v:Value} (h:Rep R L (.sc (.slice none 0 0)) v):Rep R L (.sl k []) v:=by
 rw[zl]at h
 subst h
 unfold Rep
 exact ⟨none,0,rfl,Nat.le_refl _,Nat.zero_le _,.inl rfl⟩
end
section
open CA CB
open Go.RowKit
theorem zcq {g:zm->Nat} {n:Nat}:∀ {xs:List zm},(∀ x∈xs,g x<=n)->JO g xs<=xs.length*n
 | [],_=>by simp[JO]
 | x :: r,h=>by
  have ih:=zcq (g:=g) (n:=n) (xs:=r) fun y hy=>h y (List.mem_cons_of_mem _ hy)
  have hx:=h x List.mem_cons_self
  unfold JO at ih ⊢
  simp only[List.map_cons,List.sum_cons,List.length_cons]
  rw[Nat.succ_mul];omega
theorem zi1 {f:FsV} (hf:FsI f) (hs:FsS f) {n:Int} (hh:zw n f.xs=true):0<=(zf n f.xs).links/\(zf n f.xs).links<=100000000:=by
 have h1:=hf.links _ (zh hh).2.1
 have h2:=zcq (g:=kz (zf n f.xs).ino) (n:=10000) (xs:=f.xs) fun x hx=>Nat.le_trans (List.length_filter_le _ _) (hs.node x hx).1
 have h3:=hs.len
 have h4:f.xs.length*10000<=10000*10000:=Nat.mul_le_mul_right _ h3
 unfold Vm at h1
 omega
theorem zaJ (f:FsV) (hf:FsI f) (hs:FsS f) (s:z8) (hsp:zI f s) (hne:s.dir≠s.ino):Fun Tryz.prog G0 222 [.agg (fsC f),.agg (Vl s)] (.agg (fsC (zk f s))) 0:=by
 have hi:=zI.ino hf hsp
 have hlen:=hs.len
 have hg:=jA (G:=G0) f s.dir (by omega) hf.rises
 rw[hsp.has]at hg
 have hes:=hs.es hsp.has
 have hhe:YN zX.name s.name (zf s.dir f.xs).es=true:=by rw[js,hsp.there];rfl
 have hw:=Mb (G:=G0) (zf s.dir f.xs).es s.name (by omega) (zdO hf hsp.has) hhe
 have hd1:=zc8 (G:=G0) f (jW (zf s.dir f.xs) (zg s.name (zf s.dir f.xs).es)) (by omega) hf.rises
 have hdl:(jr s.dir (zg s.name) f.xs).length=f.xs.length:=Ut hf.rises hsp.has
 have hR1:z7 (jr s.dir (zg s.name) f.xs):=Jd hf.rises
 have hg2:=jA (G:=G0) ⟨f.maxI,f.maxB,f.next,jr s.dir (zg s.name) f.xs⟩ s.ino (by simp only;omega) hR1
 simp only at hg2
 rw[JI hsp.has,hi,YC hsp.has,if_neg hne]at hg2
 have hl:=zi1 hf hs hi
 have hxi:=(zh hi).2.2
 have hd2:=zc8 (G:=G0) ⟨f.maxI,f.maxB,f.next,jr s.dir (zg s.name) f.xs⟩ { zf s.ino f.xs with links:=(zf s.ino f.xs).links-1 } (by simp only;omega) hR1
 have hd3:=ziR (G:=G0) ⟨f.maxI,f.maxB,f.next,jr s.dir (zg s.name) f.xs⟩ s.ino (by simp only;omega) hR1 (by intro h;have h0:f.xs = []:=List.length_eq_zero_iff.1 (by rw[←hdl];exact congrArg List.length h);exact xx hf h0)
 have e0:zk f s=if (zf s.ino f.xs).links-1=0 then ⟨f.maxI,f.maxB,f.next,zS s.ino (jr s.dir (zg s.name) f.xs)⟩ else ⟨f.maxI,f.maxB,f.next,qZ { zf s.ino f.xs with links:=(zf s.ino f.xs).links-1 } (jr s.dir (zg s.name) f.xs)⟩:=rfl
 unfold jr at hg2 hd2 hd3 e0
 by_cases hz:(zf s.ino f.xs).links-1=0
 ·rw[if_pos hz]at e0
  have hz':=eq_true hz
  rw[←hxi]at hd3
  refine fon Tryz.func222 ?_;dsimp only[Tryz.f222]
  push_cast -dsimp
  refine cl (hg) ?_;push_cast -dsimp
  refine cl (hw) ?_;push_cast -dsimp
  refine cl (hd1) ?_;push_cast -dsimp
  refine cl (hg2) ?_;push_cast -dsimp [hz']
  repeat refine an ?_
  refine cl (hd3) ?_;push_cast -dsimp
  exact dn (by push_cast -dsimp [zb,za,CLe,zd,e0,hxi])
 ·rw[if_neg hz]at e0
  have hz':=eq_false hz
  refine fon Tryz.func222 ?_;dsimp only[Tryz.f222]
  push_cast -dsimp
  refine cl (hg) ?_;push_cast -dsimp
  refine cl (hw) ?_;push_cast -dsimp
  refine cl (hd1) ?_;push_cast -dsimp
  refine cl (hg2) ?_;push_cast -dsimp [hz']
  repeat refine an ?_
  refine cl (hd2) ?_;push_cast -dsimp
  exact dn (by push_cast -dsimp [zb,za,CLe,zd,e0])
end
section
open CA CB
open Go.RowKit
end
section
open Go.RowKit
section
variable {G:zn}
theorem kg (rows:List (List C)) (hk:∀ r∈rows,r.length=4) (hs:jo rows) (hl:rows.length<=100000) :
  Y1 Tryz.prog G 253 [.sl 4 rows] [] 0 (zjm 4 rows):=by
 refine Y1.bySlice (fun h=>?_) (fun h a cap hr=>?_)
 ·refine foX (fun i=>if i=1000000+25 then [true,true] else []) Tryz.func253 ?_;dsimp only[Tryz.f253]
  push_cast -dsimp
  refine ⟨h,Ue Ul VW rfl rfl (by decide) rfl (qp hk) rfl (Nat.le_refl _) (Nat.le_refl _) (by omega) (by omega) (fun hc=>absurd hc ?_) (fun _ c hc hm=>?_)⟩
  ·have:=List.length_pos_iff.2 h;omega
  ·push_cast -dsimp
   rw[Nat.zero_add]at hc
   refine ⟨_,_,_,⟨⟨rfl,.inl ⟨h,c,hc,hm,rfl,rfl⟩⟩,Nat.zero_le _⟩,[],rfl,rfl,?_,by push_cast -dsimp [zb,za,CLe,zd]⟩
   push_cast -dsimp [zb,za,CLe,zd]
   exact zN (zF hs)
 ·cases a with
  | none =>
   refine foX (fun i=>if i=1000000+25 then [true,true] else []) Tryz.func253 ?_;dsimp only[Tryz.f253]
   push_cast -dsimp [hr,Option.isNone_none]
   exact ⟨_,_,_,⟨⟨rfl,.inr ⟨h,.inl ⟨rfl,rfl⟩⟩⟩,Nat.zero_le _⟩,[],rfl,rfl,by push_cast -dsimp [zb,za,CLe,zd],by push_cast -dsimp [zb,za,CLe,zd]⟩
  | some a =>
   refine foX (fun i=>if i=1000000+25 then [true,true] else []) Tryz.func253 ?_;dsimp only[Tryz.f253]
   push_cast -dsimp [hr,Option.isNone_some]
   have hx:C.xs? 4 [[]] (C.sc (.slice (some a) 0 cap))=some (0,[]):=by simp[C.xs?,hr]
   refine Ue Ul VW hx rfl (by decide) rfl rfl rfl (Nat.le_refl _) (Nat.le_refl _) (by omega) (by omega) (fun _=>?_) (fun hc=>absurd hc (by omega))
   push_cast -dsimp
   exact ⟨_,_,_,⟨⟨rfl,.inr ⟨h,.inr ⟨rfl,rfl⟩⟩⟩,Nat.zero_le _⟩,[],rfl,rfl,by (push_cast -dsimp [zb,za,CLe,zd];simp[spl,zd]),by push_cast -dsimp [zb,za,CLe,zd]⟩
theorem Vo (rows:List (List C)) (x:List C) (i c e:Nat) (hk:∀ r∈rows,r.length=4) (hx:x.length=4) (hs:jo rows) (hsx:(x.all C.stayB)=true) (hl:rows.length<=100000) (hi:i<=rows.length) (hc:rows.length<=c) (hcm:c<=9223372036854775807) :
  Y1 Tryz.prog G 252 [.bs 0 0 4 rows.length c,.sc (.int .i64 i),.own 0 e 4 [x]] [qB 4 rows c] 1 (zqX 4 (c*4) (rows.take i++x :: rows.drop i)):=by
 refine foX (fun j=>if j=1000000+25 then [true,true] else if j=11 then [false,false,false,false,false,false,false,false,true] else if j=15 then [false,false,false,false,false,false,false,false,true] else []) Tryz.func252 ?_;dsimp only[Tryz.f252]
 push_cast -dsimp
 have hlen:(rows.take i++x :: rows.drop i).length=rows.length+1:=by simp;omega
 have hki:∀ r∈rows.take i++x :: rows.drop i,r.length=4:=fun r hr=>by
  rcases List.mem_append.1 hr with hr | hr
  ·exact hk r (List.mem_of_mem_take hr)
  ·rcases List.mem_cons.1 hr with rfl | hr
   ·exact hx
   ·exact hk r (List.mem_of_mem_drop hr)
 have hsi:jo (rows.take i++x :: rows.drop i):=fun r hr=>by
  rcases List.mem_append.1 hr with hr | hr
  ·exact hs r (List.mem_of_mem_take hr)
  ·rcases List.mem_cons.1 hr with rfl | hr
   ·exact hsx
   ·exact hs r (List.mem_of_mem_drop hr)
 have hbl:=JY hk hc
 have hfl:=qp hk
 have hxl:[x].flatten.length=1*4:=by simp[hx]
 have hpre:(qB 4 rows c).take rows.flatten.length=rows.flatten:=by unfold qB;rw[List.take_left]
 refine ⟨hc,⟨by omega,hi⟩,br (fun h=>?_) (fun h=>?_)⟩
 ·push_cast -dsimp
  refine Ue Ul VW rfl rfl (by decide) rfl hxl rfl (by rw[hbl];omega) hc (by simp;omega) (by simp;omega) (fun h1=>?_) (fun h1 c' h2 h3=>?_)
  ·push_cast -dsimp
   have hi':i=rows.length:=of_decide_eq_true h
   refine ⟨_,_,_,⟨⟨rfl,c,by rw[hlen];exact h1,hcm,.inl ⟨rfl,rfl⟩⟩,Nat.le_refl _⟩,[],rfl,rfl,?_,by push_cast -dsimp [zb,za,CLe,zd,hlen]⟩
   push_cast -dsimp [zb,za,CLe,zd]
   have h6:rows.length*4+4<=c*4:=by have:rows.length+1<=c:=h1;omega
   refine YM hki hsi (by rw[hlen];exact h1) (by rw[ZQ (by rw[hbl,hx];exact h6),hbl]) ?_
   rw[hlen,hi',List.take_length,List.drop_length]
   unfold spl
   rw[←hfl,hpre,List.take_left' (by simp[hx,hfl];omega)]
   simp
  ·push_cast -dsimp
   have hi':i=rows.length:=of_decide_eq_true h
   have h2':rows.length+1<=c':=h2
   refine ⟨_,_,_,⟨⟨rfl,c',by rw[hlen];exact h2,h3,.inr ⟨rfl,rfl⟩⟩,Nat.le_of_ble_eq_true rfl⟩,[],rfl,rfl,?_,by push_cast -dsimp [zb,za,CLe,zd,hlen]⟩
   push_cast -dsimp [zb,za,CLe,zd]
   refine ⟨Qg hbl,YM hki hsi (by rw[hlen];exact h2) (by simp[hx,hbl];omega) ?_⟩
   rw[hlen,hi',List.take_length,List.drop_length,←hfl,hpre,List.take_left' (by simp[hx,hfl];omega)]
   simp
 ·have hne:i≠rows.length:=of_decide_eq_false h
  push_cast -dsimp
  refine ⟨⟨by omega,by omega⟩,br (fun h1=>?_) (fun h1=>?_)⟩
  ·have h1':(c:Int)<(rows.length:Int)+1:=of_decide_eq_true h1
   push_cast -dsimp
   repeat refine an ?_
   refine zpa Ul znh VW rfl (by decide) rfl rfl (by rw[hbl];omega) (by omega) (by omega) (by omega) (by omega) (by omega) (fun c' B h2 h3 hBl hBt=>?_)
   have e1:((rows.length:Int)+1-(i:Int)).toNat=rows.length+1-i:=by omega
   rw[e1]at h2 ⊢
   have e2:i+(rows.length+1-i)=rows.length+1:=by omega
   rw[e2]at h2 ⊢
   push_cast -dsimp
   repeat refine an ?_
   refine Z8 Ul VW rfl rfl hxl (by rw[hBl];omega) (fun B1 hB1 hl1=>?_)
   rw[hBl]at hl1
   push_cast -dsimp
   repeat refine an ?_
   have hbp:=QO (c:=c) hk hi
   refine Z8 Ul VW (Nm rfl (by rw[hbl];omega)) rfl (by rw[hbp,List.length_drop,hfl];omega) (by rw[hl1];omega) (fun B2 hB2 hl2=>?_)
   rw[hl1]at hl2
   have hX:[x].flatten.take (min [x].length (rows.length+1-i)*4)=x:=by
    rw[List.length_singleton,Nat.min_eq_left (by omega),List.take_of_length_le (by omega)];simp
   rw[hX]at hB1
   rw[hbp,show min (rows.length-i) (rows.length-i)*4=(rows.length-i)*4 by omega,List.take_of_length_le (by rw[List.length_drop,hfl];omega),hB1]at hB2
   push_cast -dsimp
   refine ⟨_,_,_,⟨⟨rfl,c',by rw[hlen];exact h2,h3,.inr ⟨rfl,rfl⟩⟩,Nat.le_of_ble_eq_true rfl⟩,[],rfl,rfl,?_,by push_cast -dsimp [zb,za,CLe,zd,hlen]⟩
   push_cast -dsimp [zb,za,CLe,zd]
   refine ⟨Qg hbl,YM hki hsi (by rw[hlen];exact h2) hl2 ?_⟩
   rw[hlen,←Vw hk,hB2]
   have hg:=vH (cs:=B) (L:=rows.flatten) (X:=x) (p:=i*4) (q:=(i+1)*4) (by omega) (by omega) (by
    rw[hBt,List.drop_zero];unfold qB;rw[List.take_append_of_le_length (by omega)]) (by omega)
   rw[hfl,hx]at hg
   rw[←hg]
   congr 1;omega
  ·have h1':¬(c:Int)<(rows.length:Int)+1:=of_decide_eq_false h1
   push_cast -dsimp
   repeat refine an ?_
   refine zoG (zeq (P:=Tryz.prog) (tR:=4) Tryz.func271 (by kernel_rfl) (by kernel_rfl) (by kernel_rfl) (by kernel_rfl) Ul VW rfl (List.ne_nil_of_length_pos (by rw[hbl];omega)) (by simp) (by omega)) ?_
   push_cast -dsimp
   repeat refine an ?_
   have hbp:=QO (c:=c) hk hi
   refine Z8 Ul VW (Nm rfl (by rw[hbl];omega)) rfl (by simp[hbl];omega) (by rw[hbl];omega) (fun B1 hB1 hl1=>?_)
   rw[hbl]at hl1
   rw[List.take_take,Nat.min_eq_left (by omega),show min (rows.length+1-i) (rows.length-i)*4=(rows.length-i)*4 by omega,hbp]at hB1
   push_cast -dsimp
   repeat refine an ?_
   refine Z8 Ul VW rfl rfl hxl (by rw[hl1];omega) (fun B2 hB2 hl2=>?_)
   rw[hl1]at hl2
   have hX:[x].flatten.take (min [x].length (rows.length+1-i)*4)=x:=by
    rw[List.length_singleton,Nat.min_eq_left (by omega),List.take_of_length_le (by omega)];simp
   rw[hX,hB1]at hB2
   push_cast -dsimp
   have hcc:rows.length+1<=c:=by omega
   refine ⟨_,_,_,⟨⟨rfl,c,by rw[hlen];exact hcc,hcm,.inl ⟨rfl,rfl⟩⟩,Nat.le_of_ble_eq_true rfl⟩,[],rfl,rfl,?_,by push_cast -dsimp [zb,za,CLe,zd,hlen]⟩
   push_cast -dsimp [zb,za,CLe,zd]
   refine YM hki hsi (by rw[hlen];exact hcc) hl2 ?_
   rw[hlen,←Vw hk,hB2]
   have hg:=MN (cs:=qB 4 rows c) (L:=rows.flatten) (X:=x) (p:=i*4) (q:=(i+1)*4) (by omega) (by omega) hpre (by omega)
   rw[hfl,hx]at hg
   rw[←hg]
   congr 1;omega
theorem vi {e:Nat} (x:List C) (hx:x.length=4) (hsx:(x.all C.stayB)=true) :
  Y1 Tryz.prog G 252 [.sc (.slice none 0 0),.sc (.int .i64 0),.own 0 e 4 [x]] [] 1 (fun r bx' n=>n=0/\∃ c,1<=c/\c<=9223372036854775807/\r = .bs 0 0 4 1 c/\bx' = [qB 4 [x] c]):=by
 refine foX (fun j=>if j=1000000+25 then [true,true] else if j=11 then [false,false,false,false,false,false,false,false,true] else if j=15 then [false,false,false,false,false,false,false,false,true] else []) Tryz.func252 ?_;dsimp only[Tryz.f252]
 push_cast -dsimp
 refine vb Ul VW rfl rfl (by decide) rfl (by simp[hx]) (by simp) (by simp) (by simp) (fun c h1 h2=>?_)
 push_cast -dsimp
 refine ⟨_,_,_,⟨⟨rfl,c,h1,h2,rfl,rfl⟩,Nat.zero_le _⟩,[],rfl,rfl,?_,by push_cast -dsimp [zb,za,CLe,zd]⟩
 push_cast -dsimp [zb,za,CLe,zd]
 have:=zN (src:=[]) (n:=1) (zF (k:=4) (c:=c) (rows:=[x]) fun r hr=>by
  rw[List.mem_singleton.1 hr];exact hsx)
 unfold qB at this ⊢
 simpa using this
end
end
section
open CA CB
open Go.RowKit
abbrev j3 (k:zL):List C:=[.sc (.int .i64 k.slot),.sc (.int .i64 k.ino),.sc (.bool k.content),.str k.data]
abbrev zC (ks:List zL):List (List C):=ks.map j3
theorem jx (ks:List zL) (i:Nat) (h:i<ks.length):(zC ks)[i]?=some (j3 ks[i]):=by simp[List.getElem?_map,List.getElem?_eq_getElem h]
abbrev kH (w:qA):List C:=[.sc (.int .i64 w.fs.maxI),.sc (.int .i64 w.fs.maxB),.sc (.int .i64 w.fs.next),.sl 6 (zp w.fs.xs),.sl 4 (zC w.kept),.sl 6 (zp w.pool)]
abbrev Zd (w:qA):C:=.agg (kH w)
theorem zfC (a b:Int):VG a b<0↔jG.lt a b=true:=by
 show VG a b<0↔decide (a<b)=true
 unfold VG
 rw[decide_eq_true_eq]
 split
 ·simp;assumption
 ·split<;>omega
theorem zdq (a b:Int):VG a b=0↔a=b:=by
 unfold VG
 split
 ·constructor
  ·intro h;cases h
  ·intro h;omega
 ·split
  ·constructor
   ·intro h;cases h
   ·intro h;omega
  ·constructor
   ·intro _;omega
   ·intro _;rfl
section
variable {G:zn}
theorem zhV (k:zL):Fun Tryz.prog G 247 [.agg (j3 k)] (.sc (.int .i64 k.slot)) 0:=by
 refine fon Tryz.func247 ?_;dsimp only[Tryz.f247]
 push_cast -dsimp
 exact dn
theorem vU (k:zL) (n:Int):Fun Tryz.prog G 268 [.agg (j3 k),.sc (.int .i64 n),.row [.clo (.func 247) [] []]] (.sc (.int .i64 (VG k.slot n))) 0:=by
 refine fon Tryz.func268 ?_;dsimp only[Tryz.f268]
 push_cast -dsimp
 refine cl (zhV k) ?_;push_cast -dsimp
 refine cl (MU k.slot n) ?_;push_cast -dsimp
 exact dn
theorem Mm (ks:List zL) (n:Int) (hl:ks.length<=100000) (hR:qx jG zL.slot ks) :
  Fun Tryz.prog G 267 [.sl 4 (zC ks),.sc (.int .i64 n),.clo (.func 268) [] [.row [.clo (.func 247) [] []]]] (.tup [.sc (.int .i64 (qk jG zL.slot n ks:Nat)),.sc (.bool (YN zL.slot n ks))]) 0:=by
 refine fon Tryz.func267 ?_;dsimp only[Tryz.f267]
 push_cast -dsimp
 refine loop (fun p:Nat×Nat=>⟨[(0,.sl 4 (zC ks)),(1,.sc (.int .i64 n)),(2,.clo (.func 268) [] [.row [.clo (.func 247) [] []]]),(8,.sc (.int .i64 (ks.length:Nat))),(9,.sc (.int .i64 p.1)),(10,.sc (.int .i64 p.2))],[],0,0⟩)
  (fun p=>p.1<=p.2/\p.2<=ks.length/\(∀ t (h:t<ks.length),t<p.1->(jG).lt (zL.slot ks[t]) n=true)/\∀ t (h:t<ks.length),p.2<=t->(jG).lt (zL.slot ks[t]) n=false) (fun p=>p.2-p.1) (0,ks.length) ⟨Nat.zero_le _,Nat.le_refl _,fun t _ h=>by (simp at h),fun t h h'=>by (dsimp only at h';omega)⟩ ?_ ?_
 ·exact wk (by push_cast -dsimp [zb,za,CLe,zd,List.length_map])
 ·rintro ⟨i,j⟩ ⟨h1,h2,h3,h4⟩
  dsimp only at h1 h2 h3 h4 ⊢
  by_cases h:i<j
  ·obtain ⟨m,hm⟩:∃ m,m=(i+j) / 2:=⟨_,rfl⟩
   have hmi:((i:Int)+(j:Int)) / 2=(m:Int):=by omega
   have hml:m<ks.length:=by omega
   have hat:=jx ks m hml
   have hlt:=(zfC ks[m].slot n)
   push_cast -dsimp [h,hmi,hat]
   repeat refine an ?_
   refine cl ((vU ks[m] n)) ?_;push_cast -dsimp
   cases hc:(jG).lt (zL.slot ks[m]) n with
   | true =>
    have hcv:(VG ks[m].slot n<0)=True:=eq_true (hlt.mpr hc)
    push_cast -dsimp [hcv]
    repeat refine an ?_
    refine ⟨(m+1,j),⟨by omega,h2,fun t ht hlt2=>?_,h4⟩,by dsimp only;omega,wk⟩
    dsimp only at hlt2
    rcases Nat.lt_or_ge t m with q | q
    ·exact (jG).tr ((List.pairwise_iff_getElem.1 hR) t m ht hml q) hc
    ·have:t=m:=by omega
     subst this;exact hc
   | false =>
    have hcv:(VG ks[m].slot n<0)=False:=eq_false (fun e=>by have h7:(jG).lt (zL.slot ks[m]) n=true:=hlt.mp e;rw[hc]at h7;cases h7)
    push_cast -dsimp [hcv]
    repeat refine an ?_
    refine ⟨(i,m),⟨by omega,by omega,h3,fun t ht hge=>?_⟩,by dsimp only;omega,wk⟩
    dsimp only at hge
    rcases Nat.lt_or_ge m t with q | q
    ·cases h9:(jG).lt (zL.slot ks[t]) n with
     | false=>rfl
     | true=>have:=(jG).tr ((List.pairwise_iff_getElem.1 hR) m t hml ht q) h9;rw[hc]at this;cases this
    ·have:t=m:=by omega
     subst this;exact hc
  ·have hij:i=j:=by omega
   subst hij
   have hrk:=QH (o:=jG) (key:=zL.slot) n ks i h2 h3 h4
   push_cast -dsimp [h]
   refine br (fun hx=>?_) (fun hx=>?_)
   ·have hx:i<ks.length:=by simpa using hx
    have hat:=jx ks i hx
    have hh:=yD n hR hrk hx
    push_cast -dsimp [hx,hat]
    repeat refine an ?_
    refine cl ((vU ks[i] n)) ?_;push_cast -dsimp
    have hcv:decide (VG ks[i].slot n=0)=YN zL.slot n ks:=by
     rw[hh]
     exact decide_eq_decide.2 (zdq ks[i].slot n)
    push_cast -dsimp [hcv]
    exact dn (by push_cast -dsimp [zb,za,CLe,zd,hrk])
   ·have hx:¬i<ks.length:=by simpa using hx
    have hh:=HZ n hR (by omega)
    push_cast -dsimp [hx]
    exact dn (by push_cast -dsimp [zb,za,CLe,zd,hrk,hh])
theorem yQ (ks:List zL) (n:Int) (hl:ks.length<=100000) (hR:qx jG zL.slot ks):Fun Tryz.prog G 246 [.sl 4 (zC ks),.sc (.int .i64 n),.clo (.func 247) [] []] (.tup [.sc (.int .i64 (qk jG zL.slot n ks:Nat)),.sc (.bool (YN zL.slot n ks))]) 0:=by
 refine fon Tryz.func246 ?_;dsimp only[Tryz.f246]
 push_cast -dsimp
 refine zoz [.sl 4 (zC ks),.sc (.int .i64 n),.clo (.func 268) [] [.row [.clo (.func 247) [] []]]] (Mm ks n hl hR) rfl ?_ ?_
 ·simp[YZ,Xh,C.frz,C.frzL]
 push_cast -dsimp
 exact dn
def zeG (n:Int) (ks:List zL):zL:=(jP zL.slot n ks).getD zlg
theorem zdU (w:qA) (n:Int) (hl:w.kept.length<=100000) (hR:qx jG zL.slot w.kept):Fun Tryz.prog G 221 [Zd w,.sc (.int .i64 n)] (.tup [.agg (j3 (zeG n w.kept)),.sc (.bool (MQ n w.kept))]) 0:=by
 obtain ⟨_,_,h3,h4⟩:=UQ n hR
 have h:=yQ (G:=G) w.kept n hl hR
 cases hh:YN zL.slot n w.kept with
 | false =>
  have hf:zeG n w.kept=zlg:=by unfold zeG;rw[(h4 hh).1];rfl
  have he:MQ n w.kept=false:=hh
  rw[hh]at h
  refine fon Tryz.func221 ?_;dsimp only[Tryz.f221]
  push_cast -dsimp
  refine cl (h) ?_;push_cast -dsimp
  exact dn (by push_cast -dsimp [zb,za,CLe,zd,hf,he,zlg])
 | true =>
  obtain ⟨hlt,_,g2,_⟩:=h3 hh
  have hf:zeG n w.kept=w.kept[qk jG zL.slot n w.kept]:=by unfold zeG;rw[g2];rfl
  have he:MQ n w.kept=true:=hh
  have hat:=jx w.kept _ hlt
  rw[hh]at h
  refine fon Tryz.func221 ?_;dsimp only[Tryz.f221]
  push_cast -dsimp
  refine cl (h) ?_;push_cast -dsimp [hat]
  repeat refine an ?_
  exact dn (by push_cast -dsimp [zb,za,CLe,zd,hf,he])
end
end
section
open Go.RowKit Go.ChangeMaps Go.ChangeShapes Go.WideShapes Go.Deep Go.Joins
section
variable {H:Type} {enc:TypeId×Value->H} {P:Program} {W:World}
theorem qY.two {t:TypeId} {f1 f2:Field} {k1 k2:Nat} {Q1 Q2:List C->Prop} (hs:P.underlying t=some (.struct #[f1,f2])) (h1:qY enc P W f1.type k1 Q1) (h2:qY enc P W f2.type k2 Q2)
  (e1:f1.offset=0) (e2:P.cellsOf f1.type=k1) (e3:f2.offset=k1) (e4:P.cellsOf f2.type=k2) (e5:P.cellsOf t=k1+k2):qY enc P W t (k1+k2) fun row=>∃ a b,row=a++b/\Q1 a/\Q2 b:=fun fuel cs x hx=>by
 obtain ⟨ys,n',hn',hy,hlen,hyl,hf⟩:=DataW.trod_struct hs hx
 rw[e5]at hlen
 have g1:=hf 0 f1 rfl
 have g2:=hf 1 f2 rfl
 have hy2:ys.length=2:=by simpa using hyl
 rw[e1,e2,List.drop_zero,List.getElem?_eq_getElem (by omega)]at g1
 rw[e3,e4,List.getElem?_eq_getElem (by omega)]at g2
 obtain ⟨a,qa,la,la',ra⟩:=h1 _ _ _ g1
 obtain ⟨b,qb,lb,lb',rb⟩:=h2 _ _ _ g2
 refine ⟨a++b,⟨a,b,rfl,qa,qb⟩,by rw[List.length_append,la,lb],hlen,fun j c v h3 h4=>?_⟩
 rcases Nat.lt_or_ge j k1 with hj | hj
 ·rw[List.getElem?_append_left (by omega)]at h3
  exact ra j c v h3 (by rw[List.getElem?_take_of_lt hj];exact h4)
 ·rw[List.getElem?_append_right (by omega),la]at h3
  have hjl:=(List.getElem?_eq_some_iff.1 h3).1
  refine rb (j-k1) c v h3 ?_
  rw[List.getElem?_take_of_lt (by omega),List.getElem?_drop,show k1+(j-k1)=j by omega];exact h4
theorem zgh:qY enc Tryz.prog W 94 4 fun row=>∃ o:zL,row=j3 o/\o.data.length<=maxLen:=fun fuel cs x hx=>by
 obtain ⟨row,⟨hl,hq⟩,h1,h2,h3⟩:=qY.struct (W:=W) (enc:=enc) (Qs:=fun j c=>match j with | 0=>∃ n,c = .sc (.int .i64 n)/\(Lit.int .i64 n).wf=true | 1=>∃ n,c = .sc (.int .i64 n)/\(Lit.int .i64 n).wf=true | 2=>∃ b,c = .sc (.bool b) | 3=>∃ l:List UInt8,c = .str l/\l.length<=maxLen | _=>True) Tryz.underlying94 (by kernel_rfl) (by kernel_rfl) (fun j f hj=>by
  match j,hj with
  | 0,hj=>cases hj;exact Opn.int Tryz.underlying3
  | 1,hj=>cases hj;exact Opn.int Tryz.underlying3
  | 2,hj=>cases hj;exact Opn.bool Tryz.underlying4
  | 3,hj=>cases hj;exact Opn.str Tryz.underlying9
  | j+4,hj=>simp at hj) fuel cs x hx
 match row,h1,hq,h3 with
 | [c0,c1,c2,c3],_,hq,h3 =>
  obtain ⟨a,rfl,_⟩:=hq 0 c0 rfl
  obtain ⟨b,rfl,_⟩:=hq 1 c1 rfl
  obtain ⟨c,rfl⟩:=hq 2 c2 rfl
  obtain ⟨d,rfl,hd⟩:=hq 3 c3 rfl
  exact ⟨_,⟨⟨a,b,c,d⟩,rfl,hd⟩,rfl,h2,h3⟩
theorem zeQ:Opn enc Tryz.prog W 25 fun c=>∃ xs:List zL,c = .sl 4 (zC xs)/\xs.length<=maxLen/\∀ x∈xs,x.data.length<=maxLen:=fun fuel cs x hx=>by
 obtain ⟨v,c,rfl,⟨rows,rfl,hl,hr⟩,h1,h2⟩:=Opn.slice (W:=W) (enc:=enc) Tryz.underlying25 (show Tryz.prog.cellsOf 94=4 by kernel_rfl) (by decide) zgh fuel cs x hx
 obtain ⟨xs,rfl,hq⟩:=Hp hr
 exact ⟨v,_,rfl,⟨xs,rfl,by simpa using hl,hq⟩,h1,h2⟩
theorem zch:qY enc Tryz.prog W 27 2 fun row=>∃ (ks:List zL) (pool:List zm),row = [.sl 4 (zC ks),.sl 6 (zp pool)]/\ks.length<=maxLen/\pool.length<=maxLen:=fun fuel cs x hx=>by
 obtain ⟨row,⟨hl,hq⟩,h1,h2,h3⟩:=qY.struct (W:=W) (enc:=enc) (Qs:=fun j c=>match j with | 0=>∃ xs:List zL,c = .sl 4 (zC xs)/\xs.length<=maxLen/\∀ x∈xs,x.data.length<=maxLen | 1=>∃ xs:List zm,c = .sl 6 (zp xs)/\xs.length<=maxLen/\∀ x∈xs,ze1 x | _=>True) Tryz.underlying27 (by kernel_rfl) (by kernel_rfl) (fun j f hj=>by
  match j,hj with
  | 0,hj=>cases hj;exact zeQ
  | 1,hj=>cases hj;exact uf
  | j+2,hj=>simp at hj) fuel cs x hx
 match row,h1,hq,h3 with
 | [c0,c1],_,hq,h3 =>
  obtain ⟨a,rfl,ha,_⟩:=hq 0 c0 rfl
  obtain ⟨b,rfl,hb,_⟩:=hq 1 c1 rfl
  exact ⟨_,⟨a,b,rfl,ha,hb⟩,rfl,h2,h3⟩
theorem zeA:qY enc Tryz.prog W 29 6 fun row=>∃ w:qA,row=kH w/\w.fs.xs.length<=maxLen:=fun fuel cs x hx=>by
 obtain ⟨row,⟨a,b,rfl,⟨f,rfl,hf,_⟩,⟨ks,pool,rfl,_⟩⟩,h1,h2,h3⟩:=qY.two (W:=W) (enc:=enc) Tryz.underlying29 zos zch rfl (by kernel_rfl) rfl (by kernel_rfl) (by kernel_rfl) fuel cs x hx
 exact ⟨_,⟨⟨f,ks,pool⟩,rfl,hf⟩,h1,h2,h3⟩
end
end
section
open CA CB
open Go.RowKit
section
variable {G:zn}
theorem zP {ks:List zL}:∀ r∈zC ks,r.length=4:=fun r hr=>by
 obtain ⟨x,_,rfl⟩:=List.mem_map.1 hr;rfl
theorem zo {ks:List zL}:jo (zC ks):=fun r hr=>by
 obtain ⟨x,_,rfl⟩:=List.mem_map.1 hr;rfl
theorem zcF (w:qA) (k:zL) (hl:w.kept.length<=90000) (hR:qx jG zL.slot w.kept) (hn:MQ k.slot w.kept=false):Fun Tryz.prog G 227 [Zd w,.agg (j3 k)] (Zd { w with kept:=qn k w.kept }) 0:=by
 obtain ⟨_,_,h3,h4⟩:=UQ (o:=jG) k.slot hR
 have hll:(zC w.kept).length=w.kept.length:=List.length_map ..
 have hat:=yQ (G:=G) w.kept k.slot (by omega) hR
 have hrl:=VH (o:=jG) (key:=zL.slot) k.slot w.kept
 have hn':YN zL.slot k.slot w.kept=false:=hn
 rw[hn']at hat
 have hw:qn k w.kept=w.kept.take (qk jG zL.slot k.slot w.kept)++k :: w.kept.drop (qk jG zL.slot k.slot w.kept):=(h4 hn').2.2 k rfl
 have hset:zC (qn k w.kept)=(zC w.kept).take (qk jG zL.slot k.slot w.kept)++j3 k :: (zC w.kept).drop (qk jG zL.slot k.slot w.kept):=by rw[hw];simp
 have hsl:(zC (qn k w.kept)).length=(zC w.kept).length+1:=by rw[hset];simp;omega
 refine foF (fun i=>if i=2 then Ga [(0,.pure),(1,.pure),(2,.pure),(4,.pure),(5,.pure),(6,.pure),(3,.flt [3,4,5]),(7,.bar),(8,.pure),(9,.pure),(10,.bar)] else []) Tryz.func227 ?_;dsimp only[Tryz.f227]
 push_cast -dsimp
 refine cl (hat) ?_;push_cast -dsimp
 refine zks [] (kg (zC w.kept) zP zo (by omega)) (by decide) (by simp) (by push_cast -dsimp) (by push_cast -dsimp) (fun r bx' m hp=>?_)
 obtain ⟨rfl,⟨hne,c,h1,h2,rfl,rfl⟩ | ⟨he,⟨rfl,rfl⟩ | ⟨rfl,rfl⟩⟩⟩:=hp
 ·have hbl:=JY zP h1
  have hre:∀ fp fo,C.reL fp fo (qB 4 (zC w.kept) c)=qB 4 (zC w.kept) c:=fun fp fo=>zD (zF zo)
  have hpos:=List.length_pos_iff.2 hne
  have hre2:∀ fp fo c,C.reL fp fo (qB 4 (zC (qn k w.kept)) c)=qB 4 (zC (qn k w.kept)) c:=fun fp fo c=>zD (zF zo)
  push_cast -dsimp [hre]
  refine jS [4] [0] (Vo (e:=94) (zC w.kept) (j3 k) (qk jG zL.slot k.slot w.kept) c zP rfl zo rfl (by omega) (by omega) h1 h2) rfl (by decide) (by decide) (by simp) (by push_cast -dsimp) (by push_cast -dsimp [hre]) (fun r bx' m hp=>?_)
  rw[←hset]at hp
  obtain ⟨rfl,c',g1,g2,⟨rfl,rfl⟩ | ⟨rfl,rfl⟩⟩:=hp
  ·push_cast -dsimp [hre2,hre]
   exact ⟨[(4,94,4,zC (qn k w.kept),c')],[],zB rfl (by omega) g1 g2 zP zo,rfl,rfl,by push_cast -dsimp [zb,za,CLe,zd]⟩
  ·have hra:∀ fp fo,C.reL fp fo (List.replicate (c*4) .any)=List.replicate (c*4) .any:=fun fp fo=>zD (by simp[List.all_replicate,C.stayB])
   push_cast -dsimp [hre2,hre,hra]
   exact ⟨[(5,94,4,zC (qn k w.kept),c')],[],zB rfl (by omega) g1 g2 zP zo,rfl,rfl,by push_cast -dsimp [zb,za,CLe,zd]⟩
 ·have he:w.kept = []:=by simpa using he
  have hr0:qk jG zL.slot k.slot w.kept=0:=by rw[he];rfl
  have hs1:qn k w.kept = [k]:=by rw[he];rfl
  push_cast -dsimp [hr0]
  refine jS [] [0] (vi (e:=94) (j3 k) rfl rfl) rfl (by decide) (by decide) (by simp) (by push_cast -dsimp) (by push_cast -dsimp) (fun r bx' m hp=>?_)
  obtain ⟨rfl,c,g1,g2,rfl,rfl⟩:=hp
  have hre:∀ fp fo,C.reL fp fo (qB 4 [j3 k] c)=qB 4 [j3 k] c:=fun fp fo=>zD (zF (zo (ks:=[k])))
  push_cast -dsimp [hre]
  exact ⟨[(3,94,4,zC [k],c)],[],zB rfl (by omega) g1 g2 zP zo,rfl,rfl,by push_cast -dsimp [zb,za,CLe,zd,hs1]⟩
 ·have he:w.kept = []:=by simpa using he
  have hr0:qk jG zL.slot k.slot w.kept=0:=by rw[he];rfl
  have hs1:qn k w.kept = [k]:=by rw[he];rfl
  push_cast -dsimp [hr0]
  refine jS [3] [0] (Vo (e:=94) [] (j3 k) 0 0 (fun r hr=>by cases hr) rfl (fun r hr=>by cases hr) rfl (by simp) (by simp) (by simp) (by simp)) rfl (by decide) (by decide) (by simp) (by push_cast -dsimp) (by push_cast -dsimp [qB]) (fun r bx' m hp=>?_)
  obtain ⟨rfl,c,g1,g2,hp⟩:=hp
  have hre:∀ fp fo,C.reL fp fo (qB 4 [j3 k] c)=qB 4 [j3 k] c:=fun fp fo=>zD (zF (zo (ks:=[k])))
  rcases hp with ⟨rfl,rfl⟩ | ⟨rfl,rfl⟩
  ·push_cast -dsimp [hre]
   exact ⟨[(3,94,4,zC [k],c)],[],zB rfl (Nat.lt_of_lt_of_le (Nat.zero_lt_succ _) g1) g1 g2 zP zo,rfl,rfl,by push_cast -dsimp [zb,za,CLe,zd,hs1]⟩
  ·push_cast -dsimp [hre]
   exact ⟨[(4,94,4,zC [k],c)],[],zB rfl (Nat.lt_of_lt_of_le (Nat.zero_lt_succ _) g1) g1 g2 zP zo,rfl,rfl,by push_cast -dsimp [zb,za,CLe,zd,hs1]⟩
theorem zcu (f:FsV) (hf:FsI f) (hs:FsS f) (p:List UInt8) (hp:p.length<=100000):Fun Tryz.prog G0 218 [.agg (fsC f),.str p] (.tup [.agg (Vl (isV f p true).1),.agg (JJ (isV f p true).2.1),.sc (.int .i64 (isV f p true).2.2)]) 0:=by
 have h1:=vV f hf hs p hp
 have h2:=jA (G:=G0) f (atV f p).1.ino (by have:=hs.len;omega) hf.rises
 have e1:(isV f p true).1=(atV f p).1:=rfl
 have e2:(isV f p true).2.1=zf (atV f p).1.ino f.xs:=rfl
 by_cases h0:(atV f p).2=0
 ·have h0':=eq_true h0
  cases hz:zw (atV f p).1.ino f.xs with
  | true =>
   have e3:(isV f p true).2.2=0:=by unfold isV;simp[h0,hz]
   rw[hz]at h2
   refine fof (fun i=>if i=4 then Ga [(0,.pure),(1,.pure),(2,.pure),(3,.flt [1,2]),(4,.flt [2]),(5,.pure)] else if i=6 then Ga [(0,.pure),(1,.pure),(2,.flt [1]),(3,.flt []),(4,.pure)] else if i=7 then Ga [(0,.pure),(1,.pure),(2,.flt [1]),(3,.flt []),(4,.pure)] else []) Tryz.func218 ?_;dsimp only[Tryz.f218]
   push_cast -dsimp
   refine cl (h1) ?_;push_cast -dsimp
   refine cl (h2) ?_;push_cast -dsimp [h0']
   exact dn (by push_cast -dsimp [zb,za,CLe,zd,e1,e2,e3])
  | false =>
   have e3:(isV f p true).2.2=1:=by unfold isV;simp[h0,hz]
   rw[hz]at h2
   refine fof (fun i=>if i=4 then Ga [(0,.pure),(1,.pure),(2,.pure),(3,.flt [1,2]),(4,.flt [2]),(5,.pure)] else if i=6 then Ga [(0,.pure),(1,.pure),(2,.flt [1]),(3,.flt []),(4,.pure)] else if i=7 then Ga [(0,.pure),(1,.pure),(2,.flt [1]),(3,.flt []),(4,.pure)] else []) Tryz.func218 ?_;dsimp only[Tryz.f218]
   push_cast -dsimp
   refine cl (h1) ?_;push_cast -dsimp
   refine cl (h2) ?_;push_cast -dsimp [h0']
   exact dn (by push_cast -dsimp [zb,za,CLe,zd,e1,e2,e3])
 ·have h0':=eq_false h0
  have e3:(isV f p true).2.2=(atV f p).2:=by unfold isV;simp[h0]
  refine fof (fun i=>if i=4 then Ga [(0,.pure),(1,.pure),(2,.pure),(3,.flt [1,2]),(4,.flt [2]),(5,.pure)] else if i=6 then Ga [(0,.pure),(1,.pure),(2,.flt [1]),(3,.flt []),(4,.pure)] else if i=7 then Ga [(0,.pure),(1,.pure),(2,.flt [1]),(3,.flt []),(4,.pure)] else []) Tryz.func218 ?_;dsimp only[Tryz.f218]
  push_cast -dsimp
  refine cl (h1) ?_;push_cast -dsimp
  refine cl (h2) ?_;push_cast -dsimp [h0',ite_self]
  exact dn (by push_cast -dsimp [zb,za,CLe,zd,e1,e2,e3])
end
end
section
open CA CB
open Go.RowKit
section
variable {G:zn}
theorem zgY (k:zm):Fun Tryz.prog G 224 [.agg (JJ k)] (.sc (.int .i64 k.ino)) 0:=by
 refine fon Tryz.func224 ?_;dsimp only[Tryz.f224]
 push_cast -dsimp
 exact dn
theorem vr (k:zm) (n:Int):Fun Tryz.prog G 249 [.agg (JJ k),.sc (.int .i64 n),.row [.clo (.func 224) [] []]] (.sc (.int .i64 (VG k.ino n))) 0:=by
 refine fon Tryz.func249 ?_;dsimp only[Tryz.f249]
 push_cast -dsimp
 refine cl (zgY k) ?_;push_cast -dsimp
 refine cl (MU k.ino n) ?_;push_cast -dsimp
 exact dn
theorem GH (ks:List zm) (n:Int) (hl:ks.length<=100000) (hR:qx jG zm.ino ks) :
  Fun Tryz.prog G 118 [.sl 6 (zp ks),.sc (.int .i64 n),.clo (.func 249) [] [.row [.clo (.func 224) [] []]]] (.tup [.sc (.int .i64 (qk jG zm.ino n ks:Nat)),.sc (.bool (YN zm.ino n ks))]) 0:=by
 refine fon Tryz.func118 ?_;dsimp only[Tryz.f118]
 push_cast -dsimp
 refine loop (fun p:Nat×Nat=>⟨[(0,.sl 6 (zp ks)),(1,.sc (.int .i64 n)),(2,.clo (.func 249) [] [.row [.clo (.func 224) [] []]]),(8,.sc (.int .i64 (ks.length:Nat))),(9,.sc (.int .i64 p.1)),(10,.sc (.int .i64 p.2))],[],0,0⟩)
  (fun p=>p.1<=p.2/\p.2<=ks.length/\(∀ t (h:t<ks.length),t<p.1->(jG).lt (zm.ino ks[t]) n=true)/\∀ t (h:t<ks.length),p.2<=t->(jG).lt (zm.ino ks[t]) n=false) (fun p=>p.2-p.1) (0,ks.length) ⟨Nat.zero_le _,Nat.le_refl _,fun t _ h=>by (simp at h),fun t h h'=>by (dsimp only at h';omega)⟩ ?_ ?_
 ·exact wk (by push_cast -dsimp [zb,za,CLe,zd,List.length_map])
 ·rintro ⟨i,j⟩ ⟨h1,h2,h3,h4⟩
  dsimp only at h1 h2 h3 h4 ⊢
  by_cases h:i<j
  ·obtain ⟨m,hm⟩:∃ m,m=(i+j) / 2:=⟨_,rfl⟩
   have hmi:((i:Int)+(j:Int)) / 2=(m:Int):=by omega
   have hml:m<ks.length:=by omega
   have hat:=qF ks m hml
   have hlt:=(zfC ks[m].ino n)
   push_cast -dsimp [h,hmi,hat]
   repeat refine an ?_
   refine cl ((vr ks[m] n)) ?_;push_cast -dsimp
   cases hc:(jG).lt (zm.ino ks[m]) n with
   | true =>
    have hcv:(VG ks[m].ino n<0)=True:=eq_true (hlt.mpr hc)
    push_cast -dsimp [hcv]
    repeat refine an ?_
    refine ⟨(m+1,j),⟨by omega,h2,fun t ht hlt2=>?_,h4⟩,by dsimp only;omega,wk⟩
    dsimp only at hlt2
    rcases Nat.lt_or_ge t m with q | q
    ·exact (jG).tr ((List.pairwise_iff_getElem.1 hR) t m ht hml q) hc
    ·have:t=m:=by omega
     subst this;exact hc
   | false =>
    have hcv:(VG ks[m].ino n<0)=False:=eq_false (fun e=>by have h7:(jG).lt (zm.ino ks[m]) n=true:=hlt.mp e;rw[hc]at h7;cases h7)
    push_cast -dsimp [hcv]
    repeat refine an ?_
    refine ⟨(i,m),⟨by omega,by omega,h3,fun t ht hge=>?_⟩,by dsimp only;omega,wk⟩
    dsimp only at hge
    rcases Nat.lt_or_ge m t with q | q
    ·cases h9:(jG).lt (zm.ino ks[t]) n with
     | false=>rfl
     | true=>have:=(jG).tr ((List.pairwise_iff_getElem.1 hR) m t hml ht q) h9;rw[hc]at this;cases this
    ·have:t=m:=by omega
     subst this;exact hc
  ·have hij:i=j:=by omega
   subst hij
   have hrk:=QH (o:=jG) (key:=zm.ino) n ks i h2 h3 h4
   push_cast -dsimp [h]
   refine br (fun hx=>?_) (fun hx=>?_)
   ·have hx:i<ks.length:=by simpa using hx
    have hat:=qF ks i hx
    have hh:=yD n hR hrk hx
    push_cast -dsimp [hx,hat]
    repeat refine an ?_
    refine cl ((vr ks[i] n)) ?_;push_cast -dsimp
    have hcv:decide (VG ks[i].ino n=0)=YN zm.ino n ks:=by
     rw[hh]
     exact decide_eq_decide.2 (zdq ks[i].ino n)
    push_cast -dsimp [hcv]
    exact dn (by push_cast -dsimp [zb,za,CLe,zd,hrk])
   ·have hx:¬i<ks.length:=by simpa using hx
    have hh:=HZ n hR (by omega)
    push_cast -dsimp [hx]
    exact dn (by push_cast -dsimp [zb,za,CLe,zd,hrk,hh])
theorem zj1 (ks:List zm) (n:Int) (hl:ks.length<=100000) (hR:qx jG zm.ino ks):Fun Tryz.prog G 223 [.sl 6 (zp ks),.sc (.int .i64 n),.clo (.func 224) [] []] (.tup [.sc (.int .i64 (qk jG zm.ino n ks:Nat)),.sc (.bool (YN zm.ino n ks))]) 0:=by
 refine fon Tryz.func223 ?_;dsimp only[Tryz.f223]
 push_cast -dsimp
 refine zoz [.sl 6 (zp ks),.sc (.int .i64 n),.clo (.func 249) [] [.row [.clo (.func 224) [] []]]] (GH ks n hl hR) rfl ?_ ?_
 ·simp[YZ,Xh,C.frz,C.frzL]
 push_cast -dsimp
 exact dn
end
end
section
open CA CB
open Go.RowKit
section
variable {G:zn}
abbrev zok (w:qA) (kc pc:C):C:=.agg [.sc (.int .i64 w.fs.maxI),.sc (.int .i64 w.fs.maxB),.sc (.int .i64 w.fs.next),.sl 6 (zp w.fs.xs),kc,pc]
def zpP (w:qA) (k:zL) (B:List C) (pn pc:Nat) (r:C) (bx':List (List C)) (m:Nat):Prop:=
 m=0/\∃ (c':Nat) (Ls:List (List C)),(Ls = []∨(∃ X,Ls = [X]/\(X.all C.stayB)=true)∨∃ X Y,Ls = [X,Y]/\(X.all C.stayB)=true/\(Y.all C.stayB)=true)/\(zC (qn k w.kept)).length<=c'/\c'<=9223372036854775807/\r=zok w (.bs (4+Ls.length) 0 4 (zC (qn k w.kept)).length c') (.bs 0 0 6 pn pc) /\
  bx'=B :: [.any,.any,.any,.any,.any,.any] :: [.any,.any,.any,.any] :: [.any,.any,.any,.any,.any,.any] :: (Ls++[qB 4 (zC (qn k w.kept)) c'])
theorem VN (w:qA) (k:zL) (B:List C) (pn pc:Nat) (hB:(B.all C.stayB)=true) (hl:w.kept.length<=90000) (hR:qx jG zL.slot w.kept) (hn:MQ k.slot w.kept=false):Y1 Tryz.prog G 227 [zok w (.sl 4 (zC w.kept)) (.bs 0 0 6 pn pc),.agg (j3 k)] [B] 0 (zpP w k B pn pc):=by
 obtain ⟨_,_,h3,h4⟩:=UQ (o:=jG) k.slot hR
 have hll:(zC w.kept).length=w.kept.length:=List.length_map ..
 have hat:=yQ (G:=G) w.kept k.slot (by omega) hR
 have hrl:=VH (o:=jG) (key:=zL.slot) k.slot w.kept
 have hn':YN zL.slot k.slot w.kept=false:=hn
 rw[hn']at hat
 have hw:qn k w.kept=w.kept.take (qk jG zL.slot k.slot w.kept)++k :: w.kept.drop (qk jG zL.slot k.slot w.kept):=(h4 hn').2.2 k rfl
 have hset:zC (qn k w.kept)=(zC w.kept).take (qk jG zL.slot k.slot w.kept)++j3 k :: (zC w.kept).drop (qk jG zL.slot k.slot w.kept):=by rw[hw];simp
 have hsl:(zC (qn k w.kept)).length=(zC w.kept).length+1:=by rw[hset];simp;omega
 refine foX (fun i=>if i=2 then Ga [(0,.pure),(1,.pure),(2,.pure),(4,.pure),(5,.pure),(6,.pure),(3,.flt [3,4,5]),(7,.bar),(8,.pure),(9,.pure),(10,.bar)] else []) Tryz.func227 ?_;dsimp only[Tryz.f227]
 have hBr:∀ fp fo,C.reL fp fo B=B:=fun fp fo=>zD hB
 push_cast -dsimp
 refine cl (hat) ?_;push_cast -dsimp
 refine zks [] (kg (zC w.kept) zP zo (by omega)) (by decide) (by simp) (by push_cast -dsimp) (by push_cast -dsimp) (fun r bx' m hp=>?_)
 obtain ⟨rfl,⟨hne,c,h1,h2,rfl,rfl⟩ | ⟨he,⟨rfl,rfl⟩ | ⟨rfl,rfl⟩⟩⟩:=hp
 ·have hbl:=JY zP h1
  have hre:∀ fp fo,C.reL fp fo (qB 4 (zC w.kept) c)=qB 4 (zC w.kept) c:=fun fp fo=>zD (zF zo)
  have hpos:=List.length_pos_iff.2 hne
  have hre2:∀ fp fo c,C.reL fp fo (qB 4 (zC (qn k w.kept)) c)=qB 4 (zC (qn k w.kept)) c:=fun fp fo c=>zD (zF zo)
  push_cast -dsimp [hre,hBr]
  refine jS [5] [0] (Vo (e:=94) (zC w.kept) (j3 k) (qk jG zL.slot k.slot w.kept) c zP rfl zo rfl (by omega) (by omega) h1 h2) rfl (by decide) (by decide) (by simp) (by push_cast -dsimp [hBr]) (by push_cast -dsimp [hre,hBr]) (fun r bx' m hp=>?_)
  rw[←hset]at hp
  obtain ⟨rfl,c',g1,g2,⟨rfl,rfl⟩ | ⟨rfl,rfl⟩⟩:=hp
  ·push_cast -dsimp [hre2,hre,hBr]
   refine ⟨_,_,0,⟨⟨rfl,c',[[]],.inr (.inl ⟨[],rfl,rfl⟩),g1,g2,rfl,rfl⟩,by simp⟩,[],rfl,rfl,?_,by push_cast -dsimp [zb,za,CLe,zd]⟩
   push_cast -dsimp [zb,za,CLe,zd]
   exact ⟨zN hB,zN (zF zo)⟩
  ·have hra:∀ fp fo,C.reL fp fo (List.replicate (c*4) .any)=List.replicate (c*4) .any:=fun fp fo=>zD (by simp[List.all_replicate,C.stayB])
   push_cast -dsimp [hre2,hre,hra,hBr]
   refine ⟨_,_,0,⟨⟨rfl,c',[[],List.replicate (c*4) .any],.inr (.inr ⟨[],_,rfl,rfl,by simp[List.all_replicate,C.stayB]⟩),g1,g2,rfl,rfl⟩,by simp⟩,[],rfl,rfl,?_,by push_cast -dsimp [zb,za,CLe,zd]⟩
   push_cast -dsimp [zb,za,CLe,zd]
   exact ⟨zN hB,zN (by simp[List.all_replicate,C.stayB]),zN (zF zo)⟩
 ·have he:w.kept = []:=by simpa using he
  have hr0:qk jG zL.slot k.slot w.kept=0:=by rw[he];rfl
  have hs1:qn k w.kept = [k]:=by rw[he];rfl
  push_cast -dsimp [hr0]
  refine jS [] [0] (vi (e:=94) (j3 k) rfl rfl) rfl (by decide) (by decide) (by simp) (by push_cast -dsimp) (by push_cast -dsimp) (fun r bx' m hp=>?_)
  obtain ⟨rfl,c,g1,g2,rfl,rfl⟩:=hp
  have hre:∀ fp fo,C.reL fp fo (qB 4 [j3 k] c)=qB 4 [j3 k] c:=fun fp fo=>zD (zF (zo (ks:=[k])))
  push_cast -dsimp [hre,hBr]
  refine ⟨zok w (.bs 4 0 4 1 c) (.bs 0 0 6 pn pc),B :: [.any,.any,.any,.any,.any,.any] :: [.any,.any,.any,.any] :: [.any,.any,.any,.any,.any,.any] :: ([]++[qB 4 [j3 k] c]),0,⟨⟨rfl,c,[],.inl rfl,by rw[hs1];exact g1,g2,by rw[hs1];rfl,by rw[hs1];rfl⟩,by simp⟩,[],rfl,rfl,?_,by push_cast -dsimp [zb,za,CLe,zd]⟩
  push_cast -dsimp [zb,za,CLe,zd]
  exact ⟨zN hB,zN (zF (zo (ks:=[k])))⟩
 ·have he:w.kept = []:=by simpa using he
  have hr0:qk jG zL.slot k.slot w.kept=0:=by rw[he];rfl
  have hs1:qn k w.kept = [k]:=by rw[he];rfl
  push_cast -dsimp [hr0]
  refine jS [4] [0] (Vo (e:=94) [] (j3 k) 0 0 (fun r hr=>by cases hr) rfl (fun r hr=>by cases hr) rfl (by simp) (by simp) (by simp) (by simp)) rfl (by decide) (by decide) (by simp) (by push_cast -dsimp) (by push_cast -dsimp [qB]) (fun r bx' m hp=>?_)
  obtain ⟨rfl,c,g1,g2,hp⟩:=hp
  have hre:∀ fp fo,C.reL fp fo (qB 4 [j3 k] c)=qB 4 [j3 k] c:=fun fp fo=>zD (zF (zo (ks:=[k])))
  rcases hp with ⟨rfl,rfl⟩ | ⟨rfl,rfl⟩
  ·push_cast -dsimp [hre,hBr]
   refine ⟨zok w (.bs 4 0 4 1 c) (.bs 0 0 6 pn pc),B :: [.any,.any,.any,.any,.any,.any] :: [.any,.any,.any,.any] :: [.any,.any,.any,.any,.any,.any] :: ([]++[qB 4 [j3 k] c]),0,⟨⟨rfl,c,[],.inl rfl,by rw[hs1];exact g1,g2,by rw[hs1];rfl,by rw[hs1];rfl⟩,by simp⟩,[],rfl,rfl,?_,by push_cast -dsimp [zb,za,CLe,zd]⟩
   push_cast -dsimp [zb,za,CLe,zd]
   exact ⟨zN hB,zN (zF (zo (ks:=[k])))⟩
  ·push_cast -dsimp [hre,hBr]
   refine ⟨zok w (.bs 5 0 4 1 c) (.bs 0 0 6 pn pc),B :: [.any,.any,.any,.any,.any,.any] :: [.any,.any,.any,.any] :: [.any,.any,.any,.any,.any,.any] :: ([[]]++[qB 4 [j3 k] c]),0,⟨⟨rfl,c,[[]],.inr (.inl ⟨[],rfl,rfl⟩),by rw[hs1];exact g1,g2,by rw[hs1];rfl,by rw[hs1];rfl⟩,by simp⟩,[],rfl,rfl,?_,by push_cast -dsimp [zb,za,CLe,zd]⟩
   push_cast -dsimp [zb,za,CLe,zd]
   exact ⟨zN hB,zN (zF (zo (ks:=[k])))⟩
end
end
section
open CA CB
open Go.RowKit
theorem qS {bx:List (List C)} {a b:Nat×TypeId×Nat×List (List C)×Nat} (h1:zbx [a] bx) (h2:zbx [b] bx) (hne:a.1≠b.1):zbx [a,b] bx:=⟨by simp[hne],fun x hx=>by
 rcases List.mem_cons.1 hx with rfl | hx
 ·exact h1.2 _ List.mem_cons_self
 ·exact h2.2 _ hx⟩
theorem u0 {f:FsV} (hf:FsI f) {s:z8} (hs:zI f s):(zk f s).xs.length<=f.xs.length:=by
 have hi:=zI.ino hf hs
 have hl:=Ut (F:=zg s.name) hf.rises hs.has
 unfold zk
 split
 ·show (zS _ _).length<=_
  exact Nat.le_trans VA (by rw[hl];exact Nat.le_refl _)
 ·show (qZ _ _).length<=_
  rw[QN (show z7 (jr s.dir (zg s.name) f.xs) from Jd hf.rises) ?_,hl]
  ·exact Nat.le_refl _
  ·show zw (zf s.ino f.xs).ino (jr _ _ _)=true
   rw[(zh hi).2.2,JI hs.has];exact hi
theorem zjz {xs:List zm} (h:z7 xs):qx jG zm.ino xs:=List.Pairwise.imp (fun {a b} h=>by show decide (a.ino<b.ino)=true;exact decide_eq_true h) h
theorem zjL (x:zm):∀ xs:List zm,ZC x xs=kW jG zm.ino x xs
 | []=>rfl
 | y :: r=>by
  unfold ZC kW
  rw[zjL x r]
  have e:jG.lt x.ino y.ino=decide (x.ino<y.ino):=rfl
  rw[e]
  by_cases h:x.ino<y.ino
  ·rw[if_pos h,if_pos (decide_eq_true h)]
  ·rw[if_neg h,if_neg (by simpa using h)]
theorem zmj {x:zm} {xs:List zm} (hR:z7 xs) (h:∀ y∈xs,y.ino≠x.ino):qZ x xs=xs.take (qk jG zm.ino x.ino xs)++x :: xs.drop (qk jG zm.ino x.ino xs):=by
 have h1:zS x.ino xs=xs:=List.filter_eq_self.2 fun y hy=>by simpa using h y hy
 have h2:YN zm.ino x.ino xs=false:=by
  unfold YN
  rw[List.any_eq_false]
  intro y hy
  simpa using h y hy
 obtain ⟨_,_,_,h4⟩:=UQ (o:=jG) x.ino (zjz hR)
 unfold qZ
 rw[h1,zjL]
 exact (h4 h2).2.2 x rfl
theorem ziu (w:qA) (hw:xw w) (hs:FsS w.fs) (hk:w.kept.length<=90000) (hp:w.pool.length<=90000) (n:Int) (s:z8) (hsp:zI w.fs s) (he:(zf s.ino w.fs.xs).es = []):Fun Tryz.prog G0 196 [Zd w,.sc (.int .i64 n),.agg (Vl s)] (.tup [Zd (j8 w n s).1,.sc (.int .i64 (j8 w n s).2)]) 0:=by
 have hf:=hw.fs
 have hlen:=hs.len
 have hino:=hsp.ino hf
 have h1:=zdU (G:=G0) w n (by omega) hw.kept
 cases hh:MQ n w.kept with
 | true =>
  have e:j8 w n s=(w,13):=by unfold j8;rw[hh];rfl
  rw[hh]at h1
  refine fof (fun i=>if i=10 then Ga [(0,.pure),(1,.pure),(2,.pure),(4,.pure),(5,.pure),(6,.pure),(3,.flt [3,4,5]),(7,.bar),(8,.pure),(9,.pure),(10,.bar)] else []) Tryz.func196 ?_;dsimp only[Tryz.f196]
  push_cast -dsimp
  refine cl (h1) ?_;push_cast -dsimp
  exact dn (by push_cast -dsimp [zb,za,CLe,zd,e])
 | false =>
  rw[hh]at h1
  have hg:=jA (G:=G0) w.fs s.ino (by omega) hf.rises
  rw[hino]at hg
  have hne:s.dir≠s.ino:=fun e=>by
   have:=hsp.there
   rw[e,he]at this;cases this
  have hu:=zaJ w.fs hf hs s hsp hne
  have hul:=u0 hf hsp
  have hg2:=jA (G:=G0) (zk w.fs s) s.ino (by omega) (Uf hf hsp he).rises
  rw[XM hsp.has hino]at hg2
  by_cases hz:(zf s.ino w.fs.xs).links=1
  ·rw[if_pos (show (zf s.ino w.fs.xs).links-1=0 by omega)]at hg2
   simp only[decide_true,Bool.not_true,Bool.false_and]at hg2
   have hxi:=(zh hino).2.2
   have hno:∀ y∈w.pool,y.ino≠s.ino:=fun y hy e=>by
    have:=(hw.apart y hy).1
    rw[e,hino]at this;cases this
   have hnk:YN zm.ino s.ino w.pool=false:=by
    unfold YN
    rw[List.any_eq_false]
    intro y hy
    simpa using hno y hy
   have e:j8 w n s=(⟨zk w.fs s,qn ⟨n,s.ino,false,[]⟩ w.kept,qZ { zf s.ino w.fs.xs with links:=0,parent:=0 } w.pool⟩,0):=by unfold j8;rw[hh,if_pos hz];rfl
   have hset:=zmj (x:={ zf s.ino w.fs.xs with links:=0,parent:=0 }) hw.pool (fun y hy=>by rw[show ({ zf s.ino w.fs.xs with links:=0,parent:=0 }:zm).ino=(zf s.ino w.fs.xs).ino from rfl,hxi];exact hno y hy)
   rw[show ({ zf s.ino w.fs.xs with links:=0,parent:=0 }:zm).ino=s.ino from hxi]at hset
   have hat:=zj1 (G:=G0) w.pool s.ino (by omega) (zjz hw.pool)
   rw[hnk]at hat
   have hll:(zp w.pool).length=w.pool.length:=List.length_map ..
   have hrl:=VH (o:=jG) (key:=zm.ino) s.ino w.pool
   generalize qk jG zm.ino s.ino w.pool=r at *
   generalize hpl:qZ { zf s.ino w.fs.xs with links:=0,parent:=0 } w.pool=pl at *
   have hpc:zp pl=(zp w.pool).take r++[.sc (.int .i64 s.ino),.sc (.int .i64 (zf s.ino w.fs.xs).kind),.sc (.int .i64 0),.str (zf s.ino w.fs.xs).data,.sc (.int .i64 0),.sl 2 (qe (zf s.ino w.fs.xs).es)] :: (zp w.pool).drop r:=by rw[hset];simp[hxi]
   have hpl1:(zp pl).length=(zp w.pool).length+1:=by rw[hpc];simp;omega
   have hre2:∀ fp fo c,C.reL fp fo (qB 6 (zp pl) c)=qB 6 (zp pl) c:=fun fp fo c=>zD (zF zu)
   have hre4:∀ fp fo c,C.reL fp fo (qB 4 (zC (qn ⟨n,s.ino,false,[]⟩ w.kept)) c)=qB 4 (zC (qn ⟨n,s.ino,false,[]⟩ w.kept)) c:=fun fp fo c=>zD (zF zo)
   have hkp:0<(zC (qn ⟨n,s.ino,false,[]⟩ w.kept)).length:=by rw[List.length_map,qn,Hs];omega
   refine foF (fun i=>if i=10 then Ga [(0,.pure),(1,.pure),(2,.pure),(4,.pure),(5,.pure),(6,.pure),(3,.flt [3,4,5]),(7,.bar),(8,.pure),(9,.pure),(10,.bar)] else []) Tryz.func196 ?_;dsimp only[Tryz.f196]
   push_cast -dsimp
   refine cl (h1) ?_;push_cast -dsimp
   refine cl (hg) ?_;push_cast -dsimp
   refine cl (hu) ?_;push_cast -dsimp
   refine cl (hg2) ?_;push_cast -dsimp
   rw[hxi]
   refine cl (hat) ?_;push_cast -dsimp
   refine zks [] (Zz (zp w.pool) zO zu (by omega)) (by decide) (by simp) (by push_cast -dsimp) (by push_cast -dsimp) (fun r0 bx' m hp=>?_)
   obtain ⟨rfl,⟨hne',c,c1,c2,rfl,rfl⟩ | ⟨hnil,⟨rfl,rfl⟩ | ⟨rfl,rfl⟩⟩⟩:=hp
   ·have hbl:=JY zO c1
    have hre:∀ fp fo,C.reL fp fo (qB 6 (zp w.pool) c)=qB 6 (zp w.pool) c:=fun fp fo=>zD (zF zu)
    push_cast -dsimp [hre]
    refine jS [7] [0] (Vt (e:=53) (zp w.pool) [.sc (.int .i64 s.ino),.sc (.int .i64 (zf s.ino w.fs.xs).kind),.sc (.int .i64 0),.str (zf s.ino w.fs.xs).data,.sc (.int .i64 0),.sl 2 (qe (zf s.ino w.fs.xs).es)] r c zO rfl zu rfl (by omega) (by omega) c1 c2) rfl (by decide) (by decide) (by simp) (by push_cast -dsimp) (by push_cast -dsimp [hre]) (fun r1 bx' m hp=>?_)
    rw[←hpc]at hp
    obtain ⟨rfl,c',g1,g2,⟨rfl,rfl⟩ | ⟨rfl,rfl⟩⟩:=hp
    ·push_cast -dsimp [hre2,hre]
     refine jS [7] [] (VN (G:=G0) { w with fs:=zk w.fs s } ⟨n,s.ino,false,[]⟩ (qB 6 (zp pl) c') (zp pl).length c' (zF zu) hk hw.kept hh) rfl (by decide) (by decide) (by simp) (by push_cast -dsimp) (by push_cast -dsimp [hre2]) (fun r2 bx' m hp=>?_)
     obtain ⟨rfl,c3,Ls,hLs,k1,k2,rfl,rfl⟩:=hp
     rcases hLs with rfl | ⟨X,rfl,hX⟩ | ⟨X,Y,rfl,hX,hY⟩
     ·push_cast -dsimp [hre2,hre4]
      exact ⟨[(11,94,4,zC (qn ⟨n,s.ino,false,[]⟩ w.kept),c3),(7,53,6,zp pl,c')],[],qS (zB rfl (Nat.lt_of_lt_of_le hkp k1) k1 k2 zP zo) (zB rfl (by omega) g1 g2 zO zu) (show (11:Nat)≠7 by decide),rfl,rfl,by push_cast -dsimp [zb,za,CLe,zd,e,false_and,if_false]⟩
     ·have hXr:∀ fp fo,C.reL fp fo X=X:=fun fp fo=>zD hX
      push_cast -dsimp [hre2,hre4,hXr]
      exact ⟨[(12,94,4,zC (qn ⟨n,s.ino,false,[]⟩ w.kept),c3),(7,53,6,zp pl,c')],[],qS (zB rfl (Nat.lt_of_lt_of_le hkp k1) k1 k2 zP zo) (zB rfl (by omega) g1 g2 zO zu) (show (12:Nat)≠7 by decide),rfl,rfl,by push_cast -dsimp [zb,za,CLe,zd,e,false_and,if_false]⟩
     ·have hXr:∀ fp fo,C.reL fp fo X=X:=fun fp fo=>zD hX
      have hYr:∀ fp fo,C.reL fp fo Y=Y:=fun fp fo=>zD hY
      push_cast -dsimp [hre2,hre4,hXr,hYr]
      exact ⟨[(13,94,4,zC (qn ⟨n,s.ino,false,[]⟩ w.kept),c3),(7,53,6,zp pl,c')],[],qS (zB rfl (Nat.lt_of_lt_of_le hkp k1) k1 k2 zP zo) (zB rfl (by omega) g1 g2 zO zu) (show (13:Nat)≠7 by decide),rfl,rfl,by push_cast -dsimp [zb,za,CLe,zd,e,false_and,if_false]⟩
    ·have hra:∀ fp fo,C.reL fp fo (List.replicate (c*6) .any)=List.replicate (c*6) .any:=fun fp fo=>zD (by simp[List.all_replicate,C.stayB])
     push_cast -dsimp [hre2,hre,hra]
     refine jS [8] [] (VN (G:=G0) { w with fs:=zk w.fs s } ⟨n,s.ino,false,[]⟩ (qB 6 (zp pl) c') (zp pl).length c' (zF zu) hk hw.kept hh) rfl (by decide) (by decide) (by simp) (by push_cast -dsimp) (by push_cast -dsimp [hre2,hra]) (fun r2 bx' m hp=>?_)
     obtain ⟨rfl,c3,Ls,hLs,k1,k2,rfl,rfl⟩:=hp
     rcases hLs with rfl | ⟨X,rfl,hX⟩ | ⟨X,Y,rfl,hX,hY⟩
     ·push_cast -dsimp [hre2,hre4,hra]
      exact ⟨[(12,94,4,zC (qn ⟨n,s.ino,false,[]⟩ w.kept),c3),(8,53,6,zp pl,c')],[],qS (zB rfl (Nat.lt_of_lt_of_le hkp k1) k1 k2 zP zo) (zB rfl (by omega) g1 g2 zO zu) (show (12:Nat)≠8 by decide),rfl,rfl,by push_cast -dsimp [zb,za,CLe,zd,e,false_and,if_false]⟩
     ·have hXr:∀ fp fo,C.reL fp fo X=X:=fun fp fo=>zD hX
      push_cast -dsimp [hre2,hre4,hra,hXr]
      exact ⟨[(13,94,4,zC (qn ⟨n,s.ino,false,[]⟩ w.kept),c3),(8,53,6,zp pl,c')],[],qS (zB rfl (Nat.lt_of_lt_of_le hkp k1) k1 k2 zP zo) (zB rfl (by omega) g1 g2 zO zu) (show (13:Nat)≠8 by decide),rfl,rfl,by push_cast -dsimp [zb,za,CLe,zd,e,false_and,if_false]⟩
     ·have hXr:∀ fp fo,C.reL fp fo X=X:=fun fp fo=>zD hX
      have hYr:∀ fp fo,C.reL fp fo Y=Y:=fun fp fo=>zD hY
      push_cast -dsimp [hre2,hre4,hra,hXr,hYr]
      exact ⟨[(14,94,4,zC (qn ⟨n,s.ino,false,[]⟩ w.kept),c3),(8,53,6,zp pl,c')],[],qS (zB rfl (Nat.lt_of_lt_of_le hkp k1) k1 k2 zP zo) (zB rfl (by omega) g1 g2 zO zu) (show (14:Nat)≠8 by decide),rfl,rfl,by push_cast -dsimp [zb,za,CLe,zd,e,false_and,if_false]⟩
   ·have hpe:w.pool = []:=by simpa using hnil
    have hr0:r=0:=by rw[hpe]at hrl;exact Nat.le_zero.1 hrl
    subst hr0
    have hq:zp pl = [[.sc (.int .i64 s.ino),.sc (.int .i64 (zf s.ino w.fs.xs).kind),.sc (.int .i64 0),.str (zf s.ino w.fs.xs).data,.sc (.int .i64 0),.sl 2 (qe (zf s.ino w.fs.xs).es)]]:=by rw[hpc,hpe];rfl
    push_cast -dsimp
    refine jS [] [0] (vy (e:=53) [.sc (.int .i64 s.ino),.sc (.int .i64 (zf s.ino w.fs.xs).kind),.sc (.int .i64 0),.str (zf s.ino w.fs.xs).data,.sc (.int .i64 0),.sl 2 (qe (zf s.ino w.fs.xs).es)] rfl rfl) rfl (by decide) (by decide) (by simp) (by push_cast -dsimp) (by push_cast -dsimp) (fun r1 bx' m hp=>?_)
    have hp:m=0/\∃ c,(zp pl).length<=c/\c<=9223372036854775807/\r1 = .bs 0 0 6 (zp pl).length c/\bx' = [qB 6 (zp pl) c]:=by rw[hq];exact hp
    obtain ⟨rfl,c',g1,g2,rfl,rfl⟩:=hp
    push_cast -dsimp [hre2]
    refine jS [6] [] (VN (G:=G0) { w with fs:=zk w.fs s } ⟨n,s.ino,false,[]⟩ (qB 6 (zp pl) c') (zp pl).length c' (zF zu) hk hw.kept hh) rfl (by decide) (by decide) (by simp) (by push_cast -dsimp) (by push_cast -dsimp [hre2]) (fun r2 bx' m hp=>?_)
    obtain ⟨rfl,c3,Ls,hLs,k1,k2,rfl,rfl⟩:=hp
    rcases hLs with rfl | ⟨X,rfl,hX⟩ | ⟨X,Y,rfl,hX,hY⟩
    ·push_cast -dsimp [hre2,hre4]
     exact ⟨[(10,94,4,zC (qn ⟨n,s.ino,false,[]⟩ w.kept),c3),(6,53,6,zp pl,c')],[],qS (zB rfl (Nat.lt_of_lt_of_le hkp k1) k1 k2 zP zo) (zB rfl (by omega) g1 g2 zO zu) (show (10:Nat)≠6 by decide),rfl,rfl,by push_cast -dsimp [zb,za,CLe,zd,e,false_and,if_false]⟩
    ·have hXr:∀ fp fo,C.reL fp fo X=X:=fun fp fo=>zD hX
     push_cast -dsimp [hre2,hre4,hXr]
     exact ⟨[(11,94,4,zC (qn ⟨n,s.ino,false,[]⟩ w.kept),c3),(6,53,6,zp pl,c')],[],qS (zB rfl (Nat.lt_of_lt_of_le hkp k1) k1 k2 zP zo) (zB rfl (by omega) g1 g2 zO zu) (show (11:Nat)≠6 by decide),rfl,rfl,by push_cast -dsimp [zb,za,CLe,zd,e,false_and,if_false]⟩
    ·have hXr:∀ fp fo,C.reL fp fo X=X:=fun fp fo=>zD hX
     have hYr:∀ fp fo,C.reL fp fo Y=Y:=fun fp fo=>zD hY
     push_cast -dsimp [hre2,hre4,hXr,hYr]
     exact ⟨[(12,94,4,zC (qn ⟨n,s.ino,false,[]⟩ w.kept),c3),(6,53,6,zp pl,c')],[],qS (zB rfl (Nat.lt_of_lt_of_le hkp k1) k1 k2 zP zo) (zB rfl (by omega) g1 g2 zO zu) (show (12:Nat)≠6 by decide),rfl,rfl,by push_cast -dsimp [zb,za,CLe,zd,e,false_and,if_false]⟩
   ·have hpe:w.pool = []:=by simpa using hnil
    have hr0:r=0:=by rw[hpe]at hrl;exact Nat.le_zero.1 hrl
    subst hr0
    have hq:zp pl = [[.sc (.int .i64 s.ino),.sc (.int .i64 (zf s.ino w.fs.xs).kind),.sc (.int .i64 0),.str (zf s.ino w.fs.xs).data,.sc (.int .i64 0),.sl 2 (qe (zf s.ino w.fs.xs).es)]]:=by rw[hpc,hpe];rfl
    push_cast -dsimp
    refine jS [6] [0] (Vt (e:=53) [] [.sc (.int .i64 s.ino),.sc (.int .i64 (zf s.ino w.fs.xs).kind),.sc (.int .i64 0),.str (zf s.ino w.fs.xs).data,.sc (.int .i64 0),.sl 2 (qe (zf s.ino w.fs.xs).es)] 0 0 (fun r hr=>by cases hr) rfl (fun r hr=>by cases hr) rfl (by simp) (by simp) (by simp) (by simp)) rfl (by decide) (by decide) (by simp) (by push_cast -dsimp) (by push_cast -dsimp [qB]) (fun r1 bx' m hp=>?_)
    have hp:zqX 6 (0*6) (zp pl) r1 bx' m:=by rw[hq];exact hp
    obtain ⟨rfl,c',g1,g2,⟨rfl,rfl⟩ | ⟨rfl,rfl⟩⟩:=hp
    ·push_cast -dsimp [hre2]
     refine jS [6] [] (VN (G:=G0) { w with fs:=zk w.fs s } ⟨n,s.ino,false,[]⟩ (qB 6 (zp pl) c') (zp pl).length c' (zF zu) hk hw.kept hh) rfl (by decide) (by decide) (by simp) (by push_cast -dsimp) (by push_cast -dsimp [hre2]) (fun r2 bx' m hp=>?_)
     obtain ⟨rfl,c3,Ls,hLs,k1,k2,rfl,rfl⟩:=hp
     rcases hLs with rfl | ⟨X,rfl,hX⟩ | ⟨X,Y,rfl,hX,hY⟩
     ·push_cast -dsimp [hre2,hre4]
      exact ⟨[(10,94,4,zC (qn ⟨n,s.ino,false,[]⟩ w.kept),c3),(6,53,6,zp pl,c')],[],qS (zB rfl (Nat.lt_of_lt_of_le hkp k1) k1 k2 zP zo) (zB rfl (by omega) g1 g2 zO zu) (show (10:Nat)≠6 by decide),rfl,rfl,by push_cast -dsimp [zb,za,CLe,zd,e,false_and,if_false]⟩
     ·have hXr:∀ fp fo,C.reL fp fo X=X:=fun fp fo=>zD hX
      push_cast -dsimp [hre2,hre4,hXr]
      exact ⟨[(11,94,4,zC (qn ⟨n,s.ino,false,[]⟩ w.kept),c3),(6,53,6,zp pl,c')],[],qS (zB rfl (Nat.lt_of_lt_of_le hkp k1) k1 k2 zP zo) (zB rfl (by omega) g1 g2 zO zu) (show (11:Nat)≠6 by decide),rfl,rfl,by push_cast -dsimp [zb,za,CLe,zd,e,false_and,if_false]⟩
     ·have hXr:∀ fp fo,C.reL fp fo X=X:=fun fp fo=>zD hX
      have hYr:∀ fp fo,C.reL fp fo Y=Y:=fun fp fo=>zD hY
      push_cast -dsimp [hre2,hre4,hXr,hYr]
      exact ⟨[(12,94,4,zC (qn ⟨n,s.ino,false,[]⟩ w.kept),c3),(6,53,6,zp pl,c')],[],qS (zB rfl (Nat.lt_of_lt_of_le hkp k1) k1 k2 zP zo) (zB rfl (by omega) g1 g2 zO zu) (show (12:Nat)≠6 by decide),rfl,rfl,by push_cast -dsimp [zb,za,CLe,zd,e,false_and,if_false]⟩
    ·push_cast -dsimp [hre2]
     refine jS [7] [] (VN (G:=G0) { w with fs:=zk w.fs s } ⟨n,s.ino,false,[]⟩ (qB 6 (zp pl) c') (zp pl).length c' (zF zu) hk hw.kept hh) rfl (by decide) (by decide) (by simp) (by push_cast -dsimp) (by push_cast -dsimp [hre2]) (fun r2 bx' m hp=>?_)
     obtain ⟨rfl,c3,Ls,hLs,k1,k2,rfl,rfl⟩:=hp
     rcases hLs with rfl | ⟨X,rfl,hX⟩ | ⟨X,Y,rfl,hX,hY⟩
     ·push_cast -dsimp [hre2,hre4]
      exact ⟨[(11,94,4,zC (qn ⟨n,s.ino,false,[]⟩ w.kept),c3),(7,53,6,zp pl,c')],[],qS (zB rfl (Nat.lt_of_lt_of_le hkp k1) k1 k2 zP zo) (zB rfl (by omega) g1 g2 zO zu) (show (11:Nat)≠7 by decide),rfl,rfl,by push_cast -dsimp [zb,za,CLe,zd,e,false_and,if_false]⟩
     ·have hXr:∀ fp fo,C.reL fp fo X=X:=fun fp fo=>zD hX
      push_cast -dsimp [hre2,hre4,hXr]
      exact ⟨[(12,94,4,zC (qn ⟨n,s.ino,false,[]⟩ w.kept),c3),(7,53,6,zp pl,c')],[],qS (zB rfl (Nat.lt_of_lt_of_le hkp k1) k1 k2 zP zo) (zB rfl (by omega) g1 g2 zO zu) (show (12:Nat)≠7 by decide),rfl,rfl,by push_cast -dsimp [zb,za,CLe,zd,e,false_and,if_false]⟩
     ·have hXr:∀ fp fo,C.reL fp fo X=X:=fun fp fo=>zD hX
      have hYr:∀ fp fo,C.reL fp fo Y=Y:=fun fp fo=>zD hY
      push_cast -dsimp [hre2,hre4,hXr,hYr]
      exact ⟨[(13,94,4,zC (qn ⟨n,s.ino,false,[]⟩ w.kept),c3),(7,53,6,zp pl,c')],[],qS (zB rfl (Nat.lt_of_lt_of_le hkp k1) k1 k2 zP zo) (zB rfl (by omega) g1 g2 zO zu) (show (13:Nat)≠7 by decide),rfl,rfl,by push_cast -dsimp [zb,za,CLe,zd,e,false_and,if_false]⟩
  ·have hz2:¬(zf s.ino w.fs.xs).links-1=0:=by omega
   rw[if_neg hz2,hino]at hg2
   have e:j8 w n s=({ w with fs:=zk w.fs s,kept:=qn ⟨n,s.ino,false,[]⟩ w.kept },0):=by unfold j8;rw[hh,if_neg hz];rfl
   have hwi:=zcF (G:=G0) { w with fs:=zk w.fs s } ⟨n,s.ino,false,[]⟩ hk hw.kept hh
   refine fof (fun i=>if i=10 then Ga [(0,.pure),(1,.pure),(2,.pure),(4,.pure),(5,.pure),(6,.pure),(3,.flt [3,4,5]),(7,.bar),(8,.pure),(9,.pure),(10,.bar)] else []) Tryz.func196 ?_;dsimp only[Tryz.f196]
   push_cast -dsimp
   refine cl (h1) ?_;push_cast -dsimp
   refine cl (hg) ?_;push_cast -dsimp
   refine cl (hu) ?_;push_cast -dsimp
   refine cl (hg2) ?_;push_cast -dsimp
   refine cl (hwi) ?_;push_cast -dsimp
   exact dn (by push_cast -dsimp [zb,za,CLe,zd,e])
end
section
open CA CB
open Go.RowKit
end
section
open CA CB
open Go.RowKit
structure zmI (w:qA):Prop where
 fs:FsS w.fs
 next:zqp w.fs
 kept:w.kept.length<=10000
 pool:w.pool.length<=10000
end
section
open CA CB
open Go.RowKit
end
section
open CA CB
open Go.RowKit
theorem zbb (w:qA) (hw:xw w) (hs:zmI w) (o:OpV) (s:z8) (hsp:zI w.fs s) (he:(zf s.ino w.fs.xs).es = []):ND Tryz.prog G0 195 [.agg (Vl s),.ptr 0 0,.ptr 1 0] [kH w,opL o] 0 (.tup [Zd (j8 w o.slot s).1,.sc (.int .i64 (j8 w o.slot s).2)]) [kH w,opL o] 0:=by
 have h:=ziu w hw hs.fs (by have:=hs.kept;omega) (by have:=hs.pool;omega) o.slot s hsp he
 unfold opL
 refine foB (fun _=>[]) Tryz.func195 ?_;dsimp only[Tryz.f195]
 push_cast -dsimp
 refine cl (h) ?_;push_cast -dsimp
 exact ⟨[],rfl,rfl,by push_cast -dsimp [zb,za,CLe,zd],by push_cast -dsimp [zb,za,CLe,zd]⟩
theorem zhA (w:qA) (hw:xw w) (hs:zmI w) (o:OpV) (ho:zg8 o) (pa:j9 o.a=true):ND Tryz.prog G0 194 [Zd w,.str o.a,.clo (.func 195) [] [.ptr 0 0,.ptr 1 0]] [kH w,opL o] 0 (.tup [Zd (qQ w o).1,.sc (.int .i64 (qQ w o).2)]) [kH w,opL o] 0:=by
 have h1:=zcu w.fs hw.fs hs.fs o.a ho.1
 by_cases h0:(isV w.fs o.a true).2.2=0
 ·have h0':=eq_true h0
  obtain ⟨t1,t2⟩:=vk hw.fs pa h0
  by_cases hes:(isV w.fs o.a true).2.1.es = []
  ·have hel:(0<(qe (isV w.fs o.a true).2.1.es).length)=False:=eq_false (by rw[hes];simp)
   have he:(zf (isV w.fs o.a true).1.ino w.fs.xs).es = []:=by rw[←t2];exact hes
   have hd:=zbb w hw hs o (isV w.fs o.a true).1 t1 he
   have e:qQ w o=j8 w o.slot (isV w.fs o.a true).1:=by unfold qQ;simp[h0,hes]
   unfold opL at hd ⊢
   refine foB (fun _=>[]) Tryz.func194 ?_;dsimp only[Tryz.f194]
   push_cast -dsimp
   refine cl (h1) ?_;push_cast -dsimp [h0',hel]
   refine Qj [0,1] [] hd rfl (by decide) (by decide) (by simp) (by push_cast -dsimp) (by push_cast -dsimp) ?_
   push_cast -dsimp
   exact ⟨[],rfl,rfl,by push_cast -dsimp [zb,za,CLe,zd],by push_cast -dsimp [zb,za,CLe,zd,e]⟩
  ·have hel:(0<(qe (isV w.fs o.a true).2.1.es).length)=True:=eq_true (by rw[List.length_map];exact List.length_pos_iff.2 hes)
   have e:qQ w o=(w,5):=by unfold qQ;simp[h0,hes]
   unfold opL
   refine foB (fun _=>[]) Tryz.func194 ?_;dsimp only[Tryz.f194]
   push_cast -dsimp
   refine cl (h1) ?_;push_cast -dsimp [h0',hel]
   exact ⟨[],rfl,rfl,by push_cast -dsimp [zb,za,CLe,zd],by push_cast -dsimp [zb,za,CLe,zd,e]⟩
 ·have h0':=eq_false h0
  have e:qQ w o=(w,(isV w.fs o.a true).2.2):=by unfold qQ;simp[h0]
  unfold opL
  refine foB (fun _=>[]) Tryz.func194 ?_;dsimp only[Tryz.f194]
  push_cast -dsimp
  refine cl (h1) ?_;push_cast -dsimp [h0']
  exact ⟨[],rfl,rfl,by push_cast -dsimp [zb,za,CLe,zd],by push_cast -dsimp [zb,za,CLe,zd,e]⟩
theorem zc9 (w:qA) (hw:xw w) (hs:zmI w) (o:OpV) (ho:zg8 o) (pa:j9 o.a=true):Fun Tryz.prog G0 193 [Zd w,.agg (opL o)] (.tup [Zd (qQ w o).1,.sc (.int .i64 (qQ w o).2)]) 0:=by
 have h:=zhA w hw hs o ho pa
 unfold opL at h ⊢
 refine fon Tryz.func193 ?_;dsimp only[Tryz.f193]
 push_cast -dsimp
 refine Qj [0,1] [] h rfl (by decide) (by decide) (by simp) (by push_cast -dsimp) (by push_cast -dsimp) ?_
 push_cast -dsimp
 exact dn
end
section
open Go.RowKit
section
variable {G:zn}
abbrev zo9:List C:=[.clo (.func 186) [] [],.clo (.func 188) [] [],.clo (.func 189) [] [],.clo (.func 190) [] [],.clo (.func 191) [] [],.clo (.func 192) [] [],.clo (.func 193) [] [],.clo (.func 197) [] [],.clo (.func 200) [] [],.clo (.func 201) [] []]
theorem zfI:Fun Tryz.prog G 160 [] (.mo 0 211 (.int .i64 [1,2,3,4,5,6,7,8,9,10]) zo9) 1:=by
 refine fon Tryz.func160 ?_;dsimp only[Tryz.f160]
 push_cast -dsimp [UW,UL,Option.map_none,List.nil_append,List.cons_append,reduceIte,Int.reduceEq]
 exact ⟨[.inl 0],rfl,rfl,by push_cast -dsimp [zb,za,CLe,zd]⟩
end
end
section
open CA CB
open Go.RowKit
theorem Fun.g0 {P:Program} {G':zn} {f:FuncId} {args:List C} {r:C} {n:Nat} (h:Fun P G0 f args r n):Fun P G' f args r n:=⟨h.1,fun R vs hg hv=>h.2 R vs (ya R) hv⟩
end
section
open Go.RowKit
section
variable {G:zn}
theorem GR (o:OpV):Fun Tryz.prog G 121 [.agg (opL o)] (.sc (.bool (decide (o.kind=3∨o.kind=7)))) 0:=by
 unfold opL
 by_cases h:o.kind=3
 ·have h':=eq_true h
  refine fon Tryz.func121 ?_;dsimp only[Tryz.f121]
  push_cast -dsimp [h']
  exact dn (by push_cast -dsimp [zb,za,CLe,zd,h',true_or,decide_true])
 ·have h':=eq_false h
  refine fon Tryz.func121 ?_;dsimp only[Tryz.f121]
  push_cast -dsimp [h']
  exact dn (by push_cast -dsimp [zb,za,CLe,zd,h',false_or])
end
end
section
open Go.RowKit
abbrev znL (d:zK):List C:=[.sc (.int .i64 d.w.fs.maxI),.sc (.int .i64 d.w.fs.maxB),.sc (.int .i64 d.w.fs.next),.sl 6 (zp d.w.fs.xs),.sl 4 (zC d.w.kept),.sl 6 (zp d.w.pool),.sl 5 (d.ops.map opL),.sl 1 (zQ d.diags),.sc (.int .i64 d.status),.sc (.int .i64 d.slot)]
abbrev VV (d:zK):C:=.agg (znL d)
section
variable {G:zn}
end
end
section
open CA CB
open Go.RowKit
section
variable {G:zn}
end
end
section
open CA CB
open Go.RowKit
theorem zh1 {f:C} {x:zm} (hx:x.es = []) (R:Env) (vs:List Value) (h:zt R zE [f,.agg [.sc (.int .i64 x.ino),.sc (.int .i64 x.kind),.sc (.int .i64 x.links),.str x.data,.sc (.int .i64 x.parent),.sc (.slice none 0 0)]] vs):zt R zE [f,.agg (JJ x)] vs:=by
 obtain ⟨v1,us1,rfl,h1,h⟩:=ze.1 h
 obtain ⟨v2,us2,rfl,h2,h⟩:=ze.1 h
 refine ze.2 ⟨_,_,rfl,h1,ze.2 ⟨_,_,rfl,?_,h⟩⟩
 obtain ⟨ws,rfl,hw⟩:=jM.1 h2
 obtain ⟨w1,t1,e1,g1,hw⟩:=ze.1 hw
 obtain ⟨w2,t2,e2,g2,hw⟩:=ze.1 hw
 obtain ⟨w3,t3,e3,g3,hw⟩:=ze.1 hw
 obtain ⟨w4,t4,e4,g4,hw⟩:=ze.1 hw
 obtain ⟨w5,t5,e5,g5,hw⟩:=ze.1 hw
 obtain ⟨w6,t6,e6,g6,hw⟩:=ze.1 hw
 refine jM.2 ⟨ws,rfl,?_⟩
 have g6':Rep R zE (.sl 2 (qe x.es)) w6:=by rw[hx];exact zhs g6
 rw[e1,e2,e3,e4,e5,e6]
 exact ze.2 ⟨_,_,rfl,g1,ze.2 ⟨_,_,rfl,g2,ze.2 ⟨_,_,rfl,g3,ze.2 ⟨_,_,rfl,g4,ze.2 ⟨_,_,rfl,g5,ze.2 ⟨_,_,rfl,g6',hw⟩⟩⟩⟩⟩⟩
theorem zih {G:zn} (f:FsV) (x:zm) (hx:x.es = []) (hl:f.xs.length<=90000) :
  Fun Tryz.prog G 46 [.agg (fsC f),.agg [.sc (.int .i64 x.ino),.sc (.int .i64 x.kind),.sc (.int .i64 x.links),.str x.data,.sc (.int .i64 x.parent),.sc (.slice none 0 0)]] (.agg [.sc (.int .i64 f.maxI),.sc (.int .i64 f.maxB),.sc (.int .i64 f.next),.own 0 53 6 (zp (qZ x f.xs))]) 1:=
 (Gp f x hl).argsLe (zh1 hx)
end
section
open CA CB
open Go.RowKit
theorem VL {ks:List zL} {i:Nat} (h:i<ks.length):jz (ks.take (i+1))=ks[i].slot:=by
 have q:(ks.take (i+1)).getLast?=some ks[i]:=by
  rw[List.getLast?_eq_getElem?,show (ks.take (i+1)).length-1=i by rw[List.length_take];omega,List.getElem?_take_of_lt (by omega),List.getElem?_eq_getElem h]
 unfold jz
 rw[q]
section
variable {G:zn}
theorem VU (w:qA):Fun Tryz.prog G 94 [Zd w] (.agg [.sc (.int .i64 0),.sc (.int .i64 0),.sc (.int .i64 0),.sl 6 (zp w.pool)]) 0:=by
 refine fon Tryz.func94 ?_;dsimp only[Tryz.f94]
 push_cast -dsimp
 exact dn
theorem Ub (w:qA) (hk:w.kept.length<=100000) (hR:qx jG zL.slot w.kept) (hp:∀ k∈w.kept,1<=k.slot):Fun Tryz.prog G 23 [Zd w] (.sc (.int .i64 (jz w.kept))) 0:=by
 obtain ⟨f,ks,pool⟩:=w
 have hk:ks.length<=100000:=hk
 have hll:(zC ks).length=ks.length:=List.length_map ..
 show Fun Tryz.prog G 23 [Zd ⟨f,ks,pool⟩] (.sc (.int .i64 (jz ks))) 0
 have h0:jz []=0:=rfl
 refine fon Tryz.func23 ?_;dsimp only[Tryz.f23]
 push_cast -dsimp
 refine loop (fun i:Nat=>⟨[(1,.ptr 0 0),(3,.sc (.int .i64 (jz (ks.take i)))),(4,.sc (.int .i64 i))],[kH ⟨f,ks,pool⟩],0,0⟩) (fun i=>i<=ks.length) (fun i=>ks.length-i) 0 (Nat.zero_le _) ?_ ?_
 ·exact wk (by push_cast -dsimp [zb,za,CLe,zd,List.take_zero,h0])
 ·intro i hi
  by_cases h:i<ks.length
  ·have g1:=jx ks i h
   have e1:jz (ks.take (i+1))=ks[i].slot:=VL h
   have e2:(if ks[i].slot>jz (ks.take i) then ks[i].slot else jz (ks.take i))=ks[i].slot:=by
    suffices hle:jz (ks.take i)<=ks[i].slot by split<;>omega
    rcases Nat.eq_zero_or_pos i with rfl | hpos
    ·have:=hp _ (List.getElem_mem h)
     show (0:Int)<=_
     omega
    ·obtain ⟨j,rfl⟩:∃ j,i=j+1:=⟨i-1,by omega⟩
     have hj:j<ks.length:=by omega
     rw[VL hj]
     have:=(List.pairwise_iff_getElem.1 hR) j (j+1) hj h (by omega)
     have:ks[j].slot<ks[j+1].slot:=of_decide_eq_true this
     omega
   push_cast -dsimp [hll,h,g1]
   repeat refine an ?_
   exact ⟨i+1,h,by omega,wk (by push_cast -dsimp [zb,za,CLe,zd,e1,e2])⟩
  ·rw[List.take_of_length_le (by omega)]
   push_cast -dsimp [hll,h]
   exact dn
end
end
section
open CA CB
open Go.RowKit
end
section
open CA CB
open Go.RowKit
def zrc (n:Int):List C:=[.sc (.int .i64 n)]
abbrev zqR (l:List Int):List (List C):=l.map zrc
theorem ye (l:List Int):(zqR l).length=l.length:=List.length_map _
theorem zc0 (l:List Int) (n:Int):zqR l++[[.sc (.int .i64 n)]]=zqR (l++[n]):=by simp[zrc]
attribute [push_cast] ye zc0
abbrev zf1 (l:List OpV):List (List C):=l.map opL
theorem yq (l:List OpV):(zf1 l).length=l.length:=List.length_map _
theorem zcp (l:List OpV) (k:Nat) (h:k<l.length):(zf1 l)[k]?=some (opL (l[k]'h)):=by rw[List.getElem?_map,List.getElem?_eq_getElem h];rfl
theorem zfR (l:List OpV) (k:Nat):(zf1 l).take k=zf1 (l.take k):=List.map_take.symm
theorem zfm (l:List OpV) (k:Nat):(zf1 l).drop k=zf1 (l.drop k):=List.map_drop.symm
attribute [push_cast] yq zfR zfm
end
section
open Go.RowKit
def zjB (l:List OpV):List Int:=(l.filter fun o=>kX o.kind).map (·.slot)
end
section
open Go.RowKit
def zjt (o p:OpV):Bool:=decide (o.kind=p.kind)&&decide (o.slot=p.slot)&&decide (o.a=p.a)&&decide (o.b=p.b)&&decide (o.d=p.d)
def Jm:List OpV->List OpV->Bool
 | [],[]=>true
 | o :: r,p :: s=>zjt o p&&Jm r s
 | _,_=>false
theorem JH:∀ l m:List OpV,Jm l m=true↔l.length=m.length/\∀ (j:Nat) (h:j<l.length) (h':j<m.length),zjt (l[j]'h) (m[j]'h')=true
 | [],[]=>by simp[Jm]
 | [],p :: s=>by simp[Jm]
 | o :: r,[]=>by simp[Jm]
 | o :: r,p :: s=>by
  have ih:=JH r s
  simp only[Jm,Bool.and_eq_true,ih,List.length_cons]
  constructor
  ·rintro ⟨h1,h2,h3⟩
   refine ⟨by omega,fun j hj hj'=>?_⟩
   cases j with
   | zero=>exact h1
   | succ j=>exact h3 j (by omega) (by omega)
  ·rintro ⟨h1,h2⟩
   exact ⟨h2 0 (by omega) (by omega),by omega,fun j hj hj'=>h2 (j+1) (by omega) (by omega)⟩
end
section
open CA CB
open Go.RowKit
end
section
open CA CB
open Go.RowKit
end
section
open CA CB
open Go.RowKit
def jX (f:FsV):Prop:=1<=f.maxI/\f.maxI<=1073741824/\0<=f.maxB/\f.maxB<=1073741824/\f.next<=1099511627776/\(∀ x∈f.xs,1<=x.ino/\x.ino<f.next)/\z7 f.xs/\zw 1 f.xs=true/\(zf 1 f.xs).kind=2
instance (f:FsV):Decidable (jX f):=by unfold jX;infer_instance
def JU (f:FsV):Prop:=∀ x∈f.xs,∀ e∈x.es,zw e.ino f.xs=true
instance (f:FsV):Decidable (JU f):=by unfold JU;infer_instance
def UU (f:FsV):Prop:=(f.xs.length:Int)<=f.maxI/\(qm f.xs:Int)<=f.maxB
instance (f:FsV):Decidable (UU f):=by unfold UU;infer_instance
theorem qc {α:Type} {l:List α} {i:Nat} (h:i<l.length) {P:α->Prop} (h1:∀ x∈l.take i,P x) (h2:P l[i]):∀ x∈l.take (i+1),P x:=fun x hx=>by
 rw[List.take_add_one,List.getElem?_eq_getElem h]at hx
 rcases List.mem_append.1 hx with hx | hx
 ·exact h1 x hx
 ·simp at hx;subst hx;exact h2
section
variable {G:zn}
theorem NX (f:FsV) (hl:f.xs.length<=100000):Fun Tryz.prog G 141 [.agg (fsC f)] (.sc (.bool (decide (jX f)))) 0:=by
 have hll:(zp f.xs).length=f.xs.length:=List.length_map ..
 refine fon Tryz.func141 ?_;dsimp only[Tryz.f141]
 by_cases e0:f.maxI<1
 case pos =>
  have hn:¬jX f:=fun h=>by have:=h.1;omega
  push_cast -dsimp [e0]
  exact dn (by push_cast -dsimp [zb,za,CLe,zd,hn])
 by_cases e1:1073741824<f.maxI
 case pos =>
  have hn:¬jX f:=fun h=>by have:=h.2.1;omega
  push_cast -dsimp [e0,e1]
  exact dn (by push_cast -dsimp [zb,za,CLe,zd,hn])
 by_cases e2:f.maxB<0
 case pos =>
  have hn:¬jX f:=fun h=>by have:=h.2.2.1;omega
  push_cast -dsimp [e0,e1,e2]
  exact dn (by push_cast -dsimp [zb,za,CLe,zd,hn])
 by_cases e3:1073741824<f.maxB
 case pos =>
  have hn:¬jX f:=fun h=>by have:=h.2.2.2.1;omega
  push_cast -dsimp [e0,e1,e2,e3]
  exact dn (by push_cast -dsimp [zb,za,CLe,zd,hn])
 by_cases e4:1099511627776<f.next
 case pos =>
  have hn:¬jX f:=fun h=>by have:=h.2.2.2.2.1;omega
  push_cast -dsimp [e0,e1,e2,e3,e4]
  exact dn (by push_cast -dsimp [zb,za,CLe,zd,hn])
 push_cast -dsimp [e0,e1,e2,e3,e4]
 refine loop (fun i:Nat=>⟨[(1,.ptr 0 0),(3,.sc (.int .i64 i))],[fsC f],0,0⟩) (fun i=>i<=f.xs.length/\∀ x∈f.xs.take i,1<=x.ino/\x.ino<f.next) (fun i=>f.xs.length-i) 0 ⟨Nat.zero_le _,fun x hx=>by simp at hx⟩ ?_ ?_
 ·exact wk
 ·rintro i ⟨h1,h2⟩
  by_cases h:i<f.xs.length
  ·have g1:=qF f.xs i h
   by_cases c1:f.xs[i].ino<1
   ·have hn:¬jX f:=fun h'=>by have:=h'.2.2.2.2.2.1 _ (List.getElem_mem h);omega
    push_cast -dsimp [hll,h,g1,c1]
    repeat refine an ?_
    exact dn (by push_cast -dsimp [zb,za,CLe,zd,hn])
   ·by_cases c2:f.next<=f.xs[i].ino
    ·have hn:¬jX f:=fun h'=>by have:=h'.2.2.2.2.2.1 _ (List.getElem_mem h);omega
     push_cast -dsimp [hll,h,g1,c1,c2]
     repeat refine an ?_
     exact dn (by push_cast -dsimp [zb,za,CLe,zd,hn])
    ·push_cast -dsimp [hll,h,g1,c1,c2]
     repeat refine an ?_
     exact ⟨i+1,⟨h,qc h h2 (by omega)⟩,by omega,wk⟩
  ·rw[List.take_of_length_le (by omega)]at h2
   have hf:jX f↔z7 f.xs/\zw 1 f.xs=true/\(zf 1 f.xs).kind=2:=⟨fun h=>h.2.2.2.2.2.2,fun h=>⟨by omega,by omega,by omega,by omega,by omega,h2,h⟩⟩
   push_cast -dsimp [hll,h]
   refine cl (XO f 1 hl) ?_;push_cast -dsimp
   by_cases c1:z7 f.xs
   ·cases c2:zw 1 f.xs with
    | true =>
     refine cl (Vv f hl) ?_;push_cast -dsimp [decide_eq_true c1,c2]
     exact dn (by push_cast -dsimp [zb,za,CLe,zd,hf,c1,c2])
    | false =>
     have hn:¬jX f:=fun h=>by have:=(hf.1 h).2.1;rw[c2]at this;cases this
     refine cl (Vv f hl) ?_;push_cast -dsimp [decide_eq_true c1,c2]
     exact dn (by push_cast -dsimp [zb,za,CLe,zd,hn])
   ·have hn:¬jX f:=fun h=>c1 (hf.1 h).1
    refine cl (Vv f hl) ?_;push_cast -dsimp [decide_eq_false c1]
    exact dn (by push_cast -dsimp [zb,za,CLe,zd,hn])
theorem GK (f:FsV) (hf:FsS f):Fun Tryz.prog G 143 [.agg (fsC f)] (.sc (.bool (decide (JU f)))) 0:=by
 have hll:(zp f.xs).length=f.xs.length:=List.length_map ..
 have h40:=hf.len
 refine fof (fun i=>if i=7 then Jl 15 16 else []) Tryz.func143 ?_;dsimp only[Tryz.f143]
 push_cast -dsimp
 refine loop (fun i:Nat=>⟨[(1,.ptr 0 0),(3,.sc (.int .i64 i))],[fsC f],0,0⟩) (fun i=>i<=f.xs.length/\∀ x∈f.xs.take i,∀ e∈x.es,zw e.ino f.xs=true) (fun i=>f.xs.length-i) 0 ⟨Nat.zero_le _,fun x hx=>by simp at hx⟩ ?_ ?_
 ·exact wk
 ·rintro i ⟨h1,h2⟩
  by_cases h:i<f.xs.length
  ·have g1:=qF f.xs i h
   have he:=(hf.node _ (List.getElem_mem h)).1
   have hle:(qe f.xs[i].es).length=f.xs[i].es.length:=List.length_map ..
   push_cast -dsimp [hll,h]
   refine loop (fun k:Nat=>⟨[(1,.ptr 0 0),(3,.sc (.int .i64 i)),(4,.sc (.int .i64 k))],[fsC f],0,0⟩) (fun k=>k<=f.xs[i].es.length/\∀ e∈f.xs[i].es.take k,zw e.ino f.xs=true) (fun k=>f.xs[i].es.length-k) 0 ⟨Nat.zero_le _,fun x hx=>by simp at hx⟩ ?_ ?_
   ·exact wk
   ·rintro k ⟨h3,h4⟩
    by_cases hk:k<f.xs[i].es.length
    ·have g2:=Jy f.xs[i].es k hk
     push_cast -dsimp [g1,hle,hk,g2]
     repeat refine an ?_
     refine cl (XO f f.xs[i].es[k].ino (by omega)) ?_;push_cast -dsimp
     cases hh:zw f.xs[i].es[k].ino f.xs with
     | true =>
      push_cast -dsimp [hh]
      repeat refine an ?_
      exact ⟨k+1,⟨hk,qc hk h4 hh⟩,by omega,wk⟩
     | false =>
      have hn:¬JU f:=fun h'=>by have:=h' _ (List.getElem_mem h) _ (List.getElem_mem hk);rw[hh]at this;cases this
      push_cast -dsimp [hh]
      exact dn (by push_cast -dsimp [zb,za,CLe,zd,hn])
    ·rw[List.take_of_length_le (by omega)]at h4
     push_cast -dsimp [g1,hle,hk]
     repeat refine an ?_
     exact ⟨i+1,⟨h,qc h h2 h4⟩,by omega,wk⟩
  ·rw[List.take_of_length_le (by omega)]at h2
   have hn:JU f:=h2
   push_cast -dsimp [hll,h]
   exact dn (by push_cast -dsimp [zb,za,CLe,zd,hn])
theorem uh (f:FsV) (hf:FsS f) (hb:qm f.xs<=100000000):Fun Tryz.prog G 139 [.agg (fsC f),.sc (.int .i64 0),.sc (.int .i64 0)] (.sc (.bool (decide (UU f)))) 0:=by
 have hll:(zp f.xs).length=f.xs.length:=List.length_map ..
 have h40:=hf.len
 refine fon Tryz.func139 ?_;dsimp only[Tryz.f139]
 by_cases c1:f.maxI<f.xs.length
 ·have hn:¬UU f:=fun h=>by have:=h.1;omega
  push_cast -dsimp [hll,c1]
  repeat refine an ?_
  exact dn (by push_cast -dsimp [zb,za,CLe,zd,hn])
 ·have hn:UU f↔(qm f.xs:Int)<=f.maxB:=⟨fun h=>h.2,fun h=>⟨by omega,h⟩⟩
  push_cast -dsimp [hll,c1]
  repeat refine an ?_
  refine cl (zcz f hf) ?_;push_cast -dsimp
  repeat refine an ?_
  exact dn (by push_cast -dsimp [zb,za,CLe,zd,hn])
end
end
section
open Go.RowKit
abbrev ZD (x:zm) (es:List zX):List (Int×Int):=es.map fun e=>(e.ino,x.ino)
def zZ (xs:List zm):List (Int×Int):=xs.flatMap fun x=>ZD x x.es
def Qm (n:Int) (l:List (Int×Int)):Nat:=(l.filter fun p=>p.1==n).length
def Vi (n:Int) (l:List (Int×Int)):Int:=(((l.filter fun p=>p.1==n).getLast?).map (·.2)).getD 0
theorem zlp {n:Int} {l:List (Int×Int)} {p:Int×Int}:Qm n (l++[p])=Qm n l+if p.1=n then 1 else 0:=by
 unfold Qm
 rw[List.filter_append,List.length_append]
 by_cases h:p.1=n<;>simp[h]
theorem ziN {n:Int} {l:List (Int×Int)} {p:Int×Int}:Vi n (l++[p])=if p.1=n then p.2 else Vi n l:=by
 unfold Vi
 rw[List.filter_append]
 by_cases h:p.1=n<;>simp[h]
theorem zaq {xs:List zm} {i:Nat} (h:i<xs.length):zZ (xs.take (i+1))=zZ (xs.take i)++ZD xs[i] xs[i].es:=by
 unfold zZ
 rw[List.take_add_one,List.getElem?_eq_getElem h,List.flatMap_append]
 simp
theorem zau {x:zm} {es:List zX} {k:Nat} (h:k<es.length):ZD x (es.take (k+1))=ZD x (es.take k)++[(es[k].ino,x.ino)]:=by
 rw[List.take_add_one,List.getElem?_eq_getElem h,Option.toList_some]
 exact List.map_append
theorem zfV {xs:List zm} (hf:∀ x∈xs,x.es.length<=10000):(zZ xs).length<=xs.length*10000:=by
 induction xs with
 | nil=>exact Nat.le_refl _
 | cons x r ih =>
  have h1:=hf x List.mem_cons_self
  have h2:=ih fun y hy=>hf y (List.mem_cons_of_mem _ hy)
  unfold zZ at h2 ⊢
  rw[List.flatMap_cons,List.length_append,List.length_map,List.length_cons]
  omega
theorem zpn {n:Int} {l:List (Int×Int)}:Qm n l<=l.length:=List.length_filter_le _ _
def Zx (xs:List zm) (x:zm):Prop:=x.links=Qm x.ino (zZ xs)/\if x.ino=1 then Qm x.ino (zZ xs)=0/\x.parent=1 else 1<=Qm x.ino (zZ xs)/\(x.kind=2->Qm x.ino (zZ xs)=1/\x.parent=Vi x.ino (zZ xs))
instance (xs:List zm) (x:zm):Decidable (Zx xs x):=by unfold Zx;infer_instance
def Yb (f:FsV):Prop:=∀ x∈f.xs,Zx f.xs x
instance (f:FsV):Decidable (Yb f):=by unfold Yb;infer_instance
section
variable {G:zn}
theorem zbs (f:FsV) (n:Int) (hf:FsS f):Fun Tryz.prog G 167 [.agg (fsC f),.sc (.int .i64 n)] (.tup [.sc (.int .i64 (Qm n (zZ f.xs):Nat)),.sc (.int .i64 (Vi n (zZ f.xs)))]) 0:=by
 have hll:(zp f.xs).length=f.xs.length:=List.length_map ..
 have h40:=hf.len
 have hc0:Qm n (zZ [])=0:=rfl
 have hl0:Vi n (zZ [])=0:=rfl
 refine fon Tryz.func167 ?_;dsimp only[Tryz.f167]
 push_cast -dsimp
 refine loop (fun i:Nat=>⟨[(1,.sc (.int .i64 n)),(2,.ptr 0 0),(6,.sc (.int .i64 (Qm n (zZ (f.xs.take i)):Nat))),(7,.sc (.int .i64 (Vi n (zZ (f.xs.take i))))),(8,.sc (.int .i64 i))],[fsC f],0,0⟩) (fun i=>i<=f.xs.length) (fun i=>f.xs.length-i) 0 (Nat.zero_le _) ?_ ?_
 ·exact wk (by push_cast -dsimp [zb,za,CLe,zd,List.take_zero,hc0,hl0])
 ·intro i h1
  by_cases h:i<f.xs.length
  ·have g1:=qF f.xs i h
   have hle:(qe f.xs[i].es).length=f.xs[i].es.length:=List.length_map ..
   have hpl:(zZ (f.xs.take i)).length<=i*10000:=by
    have:=zfV (xs:=f.xs.take i) fun x hx=>(hf.node x (List.mem_of_mem_take hx)).1
    rw[List.length_take]at this
    exact Nat.le_trans this (Nat.mul_le_mul_right _ (Nat.min_le_left _ _))
   have h40e:=(hf.node _ (List.getElem_mem h)).1
   push_cast -dsimp [hll,h]
   refine loop (fun k:Nat=>⟨[(1,.sc (.int .i64 n)),(2,.ptr 0 0),(6,.sc (.int .i64 (Qm n (zZ (f.xs.take i)++ZD f.xs[i] (f.xs[i].es.take k)):Nat))),(7,.sc (.int .i64 (Vi n (zZ (f.xs.take i)++ZD f.xs[i] (f.xs[i].es.take k))))),(8,.sc (.int .i64 i)),(9,.sc (.int .i64 k))],[fsC f],0,0⟩) (fun k=>k<=f.xs[i].es.length) (fun k=>f.xs[i].es.length-k) 0 (Nat.zero_le _) ?_ ?_
   ·exact wk (by push_cast -dsimp [zb,za,CLe,zd,List.take_zero,List.append_nil])
   ·intro k hk0
    by_cases hk:k<f.xs[i].es.length
    ·have g2:=Jy f.xs[i].es k hk
     have ht:=zau (x:=f.xs[i]) hk
     have hcl:=zpn (n:=n) (l:=zZ (f.xs.take i)++ZD f.xs[i] (f.xs[i].es.take k))
     rw[List.length_append,List.length_map,List.length_take]at hcl
     have hca:=zlp (n:=n) (l:=zZ (f.xs.take i)++ZD f.xs[i] (f.xs[i].es.take k)) (p:=(f.xs[i].es[k].ino,f.xs[i].ino))
     have hla:=ziN (n:=n) (l:=zZ (f.xs.take i)++ZD f.xs[i] (f.xs[i].es.take k)) (p:=(f.xs[i].es[k].ino,f.xs[i].ino))
     rw[List.append_assoc,←ht]at hca hla
     by_cases hc:f.xs[i].es[k].ino=n
     ·rw[if_pos hc]at hca hla
      push_cast -dsimp [g1,hle,hk,g2,hc]
      repeat refine an ?_
      exact ⟨k+1,hk,by omega,wk (by push_cast -dsimp [zb,za,CLe,zd,hca,hla])⟩
     ·rw[if_neg hc]at hca hla
      push_cast -dsimp [g1,hle,hk,g2,hc]
      repeat refine an ?_
      exact ⟨k+1,hk,by omega,wk (by push_cast -dsimp [zb,za,CLe,zd,hca,hla])⟩
    ·have hkk:f.xs[i].es.take k=f.xs[i].es:=List.take_of_length_le (by omega)
     rw[hkk]
     have ht:=zaq h
     push_cast -dsimp [g1,hle,hk]
     repeat refine an ?_
     exact ⟨i+1,h,by omega,wk (by push_cast -dsimp [zb,za,CLe,zd,ht])⟩
  ·rw[List.take_of_length_le (by omega)]
   push_cast -dsimp [hll,h]
   exact dn
end
end
section
open CA CB
open Go.RowKit
section
variable {G:zn}
theorem kx (f:FsV) (hf:FsS f):Fun Tryz.prog G 144 [.agg (fsC f)] (.sc (.bool (decide (Yb f)))) 0:=by
 have hll:(zp f.xs).length=f.xs.length:=List.length_map ..
 have h40:=hf.len
 refine fon Tryz.func144 ?_;dsimp only[Tryz.f144]
 push_cast -dsimp
 refine loop (fun i:Nat=>⟨[(1,.ptr 0 0),(3,.sc (.int .i64 i))],[fsC f],0,0⟩) (fun i=>i<=f.xs.length/\∀ x∈f.xs.take i,Zx f.xs x) (fun i=>f.xs.length-i) 0 ⟨Nat.zero_le _,fun x hx=>by simp at hx⟩ ?_ ?_
 ·exact wk
 ·rintro i ⟨h1,h2⟩
  by_cases h:i<f.xs.length
  ·have g1:=qF f.xs i h
   have hbad:¬Zx f.xs f.xs[i]->¬Yb f:=fun hn h'=>hn (h' _ (List.getElem_mem h))
   have hdef:Zx f.xs f.xs[i]↔f.xs[i].links=Qm f.xs[i].ino (zZ f.xs)/\if f.xs[i].ino=1 then Qm f.xs[i].ino (zZ f.xs)=0/\f.xs[i].parent=1 else 1<=Qm f.xs[i].ino (zZ f.xs)/\(f.xs[i].kind=2->Qm f.xs[i].ino (zZ f.xs)=1/\f.xs[i].parent=Vi f.xs[i].ino (zZ f.xs)):=Iff.rfl
   push_cast -dsimp [hll,h,g1]
   repeat refine an ?_
   refine cl (zbs f f.xs[i].ino hf) ?_;push_cast -dsimp
   generalize Qm f.xs[i].ino (zZ f.xs)=c at hdef
   generalize Vi f.xs[i].ino (zZ f.xs)=d at hdef
   by_cases c1:f.xs[i].links=(c:Int)
   case neg =>
    have hn:=hbad fun h=>c1 (hdef.1 h).1
    push_cast -dsimp [c1]
    exact dn (by push_cast -dsimp [zb,za,CLe,zd,hn])
   by_cases c2:f.xs[i].ino=1
   ·rw[if_pos c2]at hdef
    by_cases c3:(c:Int)=0
    ·by_cases c4:f.xs[i].parent=1
     ·push_cast -dsimp [c1,c2,c3,c4]
      repeat refine an ?_
      exact ⟨i+1,⟨h,qc h h2 (hdef.2 ⟨c1,by omega,c4⟩)⟩,by omega,wk⟩
     ·have hn:=hbad fun h=>c4 (hdef.1 h).2.2
      push_cast -dsimp [c1,c2,c3,c4]
      exact dn (by push_cast -dsimp [zb,za,CLe,zd,hn])
    ·have hn:=hbad fun h=>by have:=(hdef.1 h).2.1;omega
     push_cast -dsimp [c1,c2,c3]
     exact dn (by push_cast -dsimp [zb,za,CLe,zd,hn])
   ·rw[if_neg c2]at hdef
    by_cases c3:(c:Int)<1
    ·have hn:=hbad fun h=>by have:=(hdef.1 h).2.1;omega
     push_cast -dsimp [c1,c2,c3]
     exact dn (by push_cast -dsimp [zb,za,CLe,zd,hn])
    by_cases c4:f.xs[i].kind=2
    ·by_cases c5:(c:Int)=1
     ·by_cases c6:f.xs[i].parent=d
      ·push_cast -dsimp [c1,c2,c3,c4,c5,c6]
       repeat refine an ?_
       exact ⟨i+1,⟨h,qc h h2 (hdef.2 ⟨c1,by omega,fun _=>⟨by omega,c6⟩⟩)⟩,by omega,wk⟩
      ·have hn:=hbad fun h=>c6 ((hdef.1 h).2.2 c4).2
       push_cast -dsimp [c1,c2,c3,c4,c5,c6]
       exact dn (by push_cast -dsimp [zb,za,CLe,zd,hn])
     ·have hn:=hbad fun h=>by have:=((hdef.1 h).2.2 c4).1;omega
      push_cast -dsimp [c1,c2,c3,c4,c5]
      exact dn (by push_cast -dsimp [zb,za,CLe,zd,hn])
    ·push_cast -dsimp [c1,c2,c3,c4]
     repeat refine an ?_
     exact ⟨i+1,⟨h,qc h h2 (hdef.2 ⟨c1,by omega,fun h=>absurd h c4⟩)⟩,by omega,wk⟩
  ·rw[List.take_of_length_le (by omega)]at h2
   have hn:Yb f:=h2
   push_cast -dsimp [hll,h]
   exact dn (by push_cast -dsimp [zb,za,CLe,zd,hn])
end
end
section
open CA CB
open Go.RowKit
abbrev uI (S:List Int):List (List C):=S.map fun n=>[C.sc (.int .i64 n)]
def JS (S:List Int) (n:Int):List Int:=if n∈S then S else S++[n]
def UK (S:List Int) (es:List zX):List Int:=es.foldl (fun s e=>JS s e.ino) S
def Qk (xs:List zm):Nat->Nat->List Int->List Int
 | 0,_,S=>S
 | m+1,i,S=>match S[i]? with
  | some n=>Qk xs m (i+1) (UK S (zf n xs).es)
  | none=>S
def XY (f:FsV):Prop:=(Qk f.xs (f.xs.length+1) 0 [1]).length=f.xs.length
instance (f:FsV):Decidable (XY f):=by unfold XY;infer_instance
theorem Vs:∀ {S T:List Int},S.Nodup->(∀ n∈S,n∈T)->S.length<=T.length
 | [],T,_,_=>Nat.zero_le _
 | a :: r,T,hn,hs=>by
  have ha:=hs a List.mem_cons_self
  obtain ⟨h1,h2⟩:=List.nodup_cons.1 hn
  have:=Vs (S:=r) (T:=T.erase a) h2 fun n hr=>(List.mem_erase_of_ne (fun e=>h1 (by rw[←e];exact hr))).2 (hs n (List.mem_cons_of_mem _ hr))
  rw[List.length_erase_of_mem ha]at this
  have hpos:=List.length_pos_iff.2 (List.ne_nil_of_mem ha)
  rw[List.length_cons];omega
theorem Hu {n:Int} {xs:List zm}:zw n xs=true↔n∈xs.map (·.ino):=by
 unfold zw
 rw[List.any_eq_true,List.mem_map]
 simp
theorem Qx {S:List Int} {xs:List zm} (hn:S.Nodup) (hs:∀ n∈S,zw n xs=true):S.length<=xs.length:=by
 have:=Vs (T:=xs.map (·.ino)) hn fun n h=>Hu.1 (hs n h)
 rwa [List.length_map]at this
theorem G4 {S:List Int} {n:Int} (h:S.Nodup):(JS S n).Nodup:=by
 unfold JS
 split
 ·exact h
 ·rw[List.nodup_append]
  refine ⟨h,by simp,fun a ha b hb e=>?_⟩
  simp at hb;subst hb;subst e;contradiction
theorem kL {S:List Int} {n m:Int}:m∈JS S n↔m∈S∨m=n:=by
 unfold JS
 split
 ·constructor
  ·exact .inl
  ·rintro (h | h)
   ·exact h
   ·rw[h];assumption
 ·simp
theorem qT {n:Int} {xs:List zm} (h:zw n xs=true):zf n xs∈xs/\(zf n xs).ino=n:=by
 unfold zw at h
 unfold zf X5
 cases hq:xs.find? fun x=>x.ino==n with
 | none =>
  rw[List.find?_eq_none]at hq
  obtain ⟨x,hx,he⟩:=List.any_eq_true.1 h
  exact absurd he (hq x hx)
 | some y =>
  exact ⟨List.mem_of_find?_eq_some hq,by simpa using List.find?_some hq⟩
theorem zfy {S:List Int} {es:List zX} {k:Nat} (h:k<es.length):UK S (es.take (k+1))=JS (UK S (es.take k)) es[k].ino:=by
 unfold UK
 rw[List.take_add_one,List.getElem?_eq_getElem h,List.foldl_append]
 rfl
theorem zgm (es:List zX):∀ (S:List Int),S <+: UK S es:=by
 induction es with
 | nil=>exact fun S=>List.prefix_refl S
 | cons e r ih =>
  intro S
  refine List.IsPrefix.trans ?_ (ih (JS S e.ino))
  unfold JS
  split
  ·exact List.prefix_refl S
  ·exact List.prefix_append S _
theorem zg3 (S:List Int) (es:List zX):S.length<=(UK S es).length:=(zgm es S).length_le
structure J0 (xs:List zm) (S:List Int):Prop where
 nodup:S.Nodup
 has:∀ n∈S,zw n xs=true
theorem J0.len {xs:List zm} {S:List Int} (h:J0 xs S):S.length<=xs.length:=Qx h.nodup h.has
theorem J0.one {xs:List zm} {S:List Int} {n:Int} (h:J0 xs S) (hn:zw n xs=true):J0 xs (JS S n):=⟨G4 h.nodup,fun m hm=>by
 rcases kL.1 hm with hm | rfl
 ·exact h.has m hm
 ·exact hn⟩
theorem zfl {S:List Int} {n:Int} {j:Nat} (h:j<S.length):((S.take (j+1)).any fun m=>decide (m=n))=(((S.take j).any fun m=>decide (m=n))||decide (S[j]=n)):=by
 rw[List.take_add_one,List.getElem?_eq_getElem h,List.any_append]
 simp
theorem zlU {S:List Int} {n:Int}:(S.any fun m=>decide (m=n))=decide (n∈S):=by
 rw[Bool.eq_iff_iff,List.any_eq_true,decide_eq_true_iff]
 constructor
 ·rintro ⟨m,hm,h⟩;exact (of_decide_eq_true h)▸hm
 ·exact fun h=>⟨n,h,decide_eq_true rfl⟩
theorem uo (S:List Int) (i:Nat) (h:i<S.length):(uI S)[i]?=some [.sc (.int .i64 S[i])]:=by simp[List.getElem?_map,List.getElem?_eq_getElem h]
section
variable {G:zn}
theorem Gy (f:FsV) (hf:FsS f) (h3:JU f) (h1:zw 1 f.xs=true):Fun Tryz.prog G 145 [.agg (fsC f)] (.sc (.bool (decide (XY f)))) 0:=by
 have hll:(zp f.xs).length=f.xs.length:=List.length_map ..
 have h40:=hf.len
 refine fof (fun i=>if i=5 then Jl 9 10 else []) Tryz.func145 ?_;dsimp only[Tryz.f145]
 push_cast -dsimp
 refine loop (fun p:Nat×List Int=>⟨[(1,.ptr 0 0),(3,.own 0 3 1 (uI p.2)),(4,.sc (.int .i64 p.1))],[fsC f],1,0⟩) (fun p=>p.1<=p.2.length/\J0 f.xs p.2/\Qk f.xs (f.xs.length+1-p.1) p.1 p.2=Qk f.xs (f.xs.length+1) 0 [1]) (fun p=>f.xs.length+1-p.1) (0,[1]) ⟨Nat.zero_le _,⟨by simp,fun n hn=>by simp at hn;subst hn;exact h1⟩,rfl⟩ ?_ ?_
 ·exact wks [.inl 0]
 ·rintro ⟨i,S⟩ ⟨k1,k2,k3⟩
  dsimp only at k1 k2 k3 ⊢
  have hSl:=k2.len
  have hli:(uI S).length=S.length:=List.length_map ..
  by_cases h:i<S.length
  ·have g0:=uo S i h
   obtain ⟨hm,hino⟩:=qT (k2.has S[i] (List.getElem_mem h))
   push_cast -dsimp [hli,h,g0]
   repeat refine an ?_
   refine cl (XO f S[i] (by omega)) ?_;push_cast -dsimp
   rw[show f.xs.length+1-i=(f.xs.length+1-(i+1))+1 by omega,Qk,List.getElem?_eq_getElem h]at k3
   dsimp only at k3
   generalize zf S[i] f.xs=x at hm hino k3
   have hx40:=(hf.node x hm).1
   have hle:(qe x.es).length=x.es.length:=List.length_map ..
   refine loop (fun k:Nat=>⟨[(1,.ptr 0 0),(3,.own 0 3 1 (uI (UK S (x.es.take k)))),(4,.sc (.int .i64 i)),(5,.ptr 1 0),(7,.sc (.int .i64 k))],[fsC f,JJ x],1,0⟩) (fun k=>k<=x.es.length/\J0 f.xs (UK S (x.es.take k))) (fun k=>x.es.length-k) 0 ⟨Nat.zero_le _,k2⟩ ?_ ?_
   ·exact wks [.inl 0] (by push_cast -dsimp [zb,za,CLe,zd,List.take_zero,UK,List.foldl_nil])
   ·rintro k ⟨hk0,k4⟩
    by_cases hk:k<x.es.length
    ·have g2:=Jy x.es k hk
     have hT:=k4.len
     have ht:=zfy (S:=S) hk
     have hhas:zw x.es[k].ino f.xs=true:=h3 x hm _ (List.getElem_mem hk)
     have k5:=k4.one hhas
     rw[←ht]at k5
     generalize hT1:UK S (x.es.take (k+1))=T1 at ht k5
     generalize UK S (x.es.take k)=T at k4 hT ht
     have hlT:(uI T).length=T.length:=List.length_map ..
     generalize hn:x.es[k].ino=n at g2 ht
     push_cast -dsimp [hle,hk]
     refine loop (fun j:Nat=>⟨[(1,.ptr 0 0),(3,.own 0 3 1 (uI T)),(4,.sc (.int .i64 i)),(5,.ptr 1 0),(7,.sc (.int .i64 k)),(8,.sc (.bool ((T.take j).any fun m=>decide (m=n)))),(9,.sc (.int .i64 j))],[fsC f,JJ x],1,0⟩) (fun j=>j<=T.length) (fun j=>T.length-j) 0 (Nat.zero_le _) ?_ ?_
     ·exact wks [.inl 0] (by push_cast -dsimp [zb,za,CLe,zd,List.take_zero,List.any_nil])
     ·intro j hj0
      by_cases hj:j<T.length
      ·have g3:=uo T j hj
       have ha:=zfl (n:=n) hj
       by_cases hq:((T.take j).any fun m=>decide (m=n))=true
       ·rw[hq,Bool.true_or]at ha
        push_cast -dsimp [hlT,hj,hq]
        repeat refine an ?_
        exact ⟨j+1,hj,by omega,wks [.inl 0] (by push_cast -dsimp [zb,za,CLe,zd,ha])⟩
       ·have hq:=Bool.eq_false_iff.2 hq
        rw[hq,Bool.false_or]at ha
        push_cast -dsimp [hlT,hj,hq,g3,g2,hn]
        repeat refine an ?_
        exact ⟨j+1,hj,by omega,wks [.inl 0] (by push_cast -dsimp [zb,za,CLe,zd,ha])⟩
      ·have hTj:(T.take j)=T:=List.take_of_length_le (by omega)
       have hany:=zlU (S:=T) (n:=n)
       unfold JS at ht
       by_cases hin:n∈T
       ·rw[if_pos hin]at ht
        rw[decide_eq_true hin]at hany
        push_cast -dsimp [hlT,hj,hTj,hany]
        repeat refine an ?_
        exact ⟨k+1,⟨hk,by rw[hT1];exact k5⟩,by omega,wks [.inl 0] (by push_cast -dsimp [zb,za,CLe,zd,hT1,ht])⟩
       ·rw[if_neg hin]at ht
        rw[decide_eq_false hin]at hany
        push_cast -dsimp [hlT,hj,hTj,hany,g2,hn]
        repeat refine an ?_
        exact ⟨k+1,⟨hk,by rw[hT1];exact k5⟩,by omega,wks [.inl 0] (by push_cast -dsimp [zb,za,CLe,zd,hT1,ht,List.map_append])⟩
    ·have hkk:x.es.take k=x.es:=List.take_of_length_le (by omega)
     rw[hkk]at k4
     have hge:i+1<=(UK S x.es).length:=Nat.le_trans h (zg3 S x.es)
     push_cast -dsimp [hle,hk,hkk]
     repeat refine an ?_
     exact ⟨(i+1,UK S x.es),⟨hge,k4,k3⟩,by dsimp only;omega,wks [.inl 0]⟩
  ·push_cast -dsimp [hli,h]
   have hfin:Qk f.xs (f.xs.length+1-i) i S=S:=by
    rw[show f.xs.length+1-i=(f.xs.length-i)+1 by omega,Qk,List.getElem?_eq_none (by omega)]
   rw[hfin]at k3
   have hn:XY f↔S.length=f.xs.length:=by unfold XY;rw[←k3]
   exact dn (by push_cast -dsimp [zb,za,CLe,zd,hn,hll])
end
end
section
open CA CB
open Go.RowKit
def Yv (es:List zX):Prop:=∀ i (h:i<es.length),may es[i].name=true/\1<=es[i].ino/\(0<i->Op.bytesLess es[i-1].name es[i].name=true)
instance (es:List zX):Decidable (Yv es):=by unfold Yv;infer_instance
def J3 (x:zm):Prop:=(x.kind=1∨x.kind=2∨x.kind=3)/\(x.kind≠2->x.es = []/\x.parent=0)/\(x.kind=2->x.data = []/\Yv x.es)/\(x.kind=3->1<=x.data.length/\x.data.length<=4095/\∀ b∈x.data,b≠0)
instance (x:zm):Decidable (J3 x):=by unfold J3;infer_instance
def J8 (f:FsV):Prop:=∀ x∈f.xs,J3 x
instance (f:FsV):Decidable (J8 f):=by unfold J8;infer_instance
def j7 (f:FsV):Int:=if jX f then if J8 f then if JU f then if Yb f then if XY f then if UU f then 0 else 6 else 5 else 4 else 3 else 2 else 1
def okV (f:FsV):Prop:=ZU f.xs/\j7 f=0
instance (f:FsV):Decidable (okV f):=by unfold okV;infer_instance
theorem zbZ (es:List zX) (hl:es.length<=100000) (hn:∀ e∈es,e.name.length<=1000000):Fun Tryz.prog G0 166 [.sl 2 (qe es)] (qy (decide (Yv es))) 0:=by
 have hle:(qe es).length=es.length:=List.length_map ..
 refine fon Tryz.func166 ?_;dsimp only[Tryz.f166]
 push_cast -dsimp
 refine loop (fun i:Nat=>⟨[(0,.sl 2 (qe es)),(3,.sc (.int .i64 i))],[],0,0⟩) (fun i=>i<=es.length/\∀ j (h:j<es.length),j<i->may es[j].name=true/\1<=es[j].ino/\(0<j->Op.bytesLess es[j-1].name es[j].name=true)) (fun i=>es.length-i) 0 ⟨Nat.zero_le _,fun j h h'=>absurd h' (Nat.not_lt_zero _)⟩ ?_ ?_
 ·exact wk
 ·rintro i ⟨h1,h2⟩
  by_cases h:i<es.length
  ·have g1:=Jy es i h
   have hm:=kN es[i].name (by have:=hn _ (List.getElem_mem h);omega)
   push_cast -dsimp [hle,h,g1]
   repeat refine an ?_
   cases c1:may es[i].name with
   | false =>
    have hno:¬Yv es:=fun hr=>by have:=(hr i h).1;rw[c1]at this;cases this
    refine cl (hm) ?_;push_cast -dsimp [c1]
    exact dn (by push_cast -dsimp [zb,za,CLe,zd,hno])
   | true =>
    by_cases c2:es[i].ino<1
    ·have hno:¬Yv es:=fun hr=>by have:=(hr i h).2.1;omega
     refine cl (hm) ?_;push_cast -dsimp [c1,g1,c2]
     repeat refine an ?_
     exact dn (by push_cast -dsimp [zb,za,CLe,zd,hno])
    ·have step:(0<i->Op.bytesLess es[i-1].name es[i].name=true)->∀ j (h:j<es.length),j<i+1->may es[j].name=true/\1<=es[j].ino/\(0<j->Op.bytesLess es[j-1].name es[j].name=true):=fun hb j hj hlt=>by
      rcases Nat.lt_or_ge j i with q | q
      ·exact h2 j hj q
      ·have:j=i:=by omega
       subst this
       exact ⟨c1,by omega,hb⟩
     by_cases c3:0<i
     ·have g2:=Jy es (i-1) (by omega)
      have e1:(i:Int)-1=((i-1:Nat):Int):=by omega
      cases c4:Op.bytesLess es[i-1].name es[i].name with
      | true =>
       refine cl (hm) ?_;push_cast -dsimp [c1,g1,c2]
       repeat refine an ?_
       push_cast -dsimp [c3,e1,g2,g1,c4]
       repeat refine an ?_
       exact ⟨i+1,⟨h,step fun _=>c4⟩,by omega,wk⟩
      | false =>
       have hno:¬Yv es:=fun hr=>by have:=(hr i h).2.2 c3;rw[c4]at this;cases this
       refine cl (hm) ?_;push_cast -dsimp [c1,g1,c2]
       repeat refine an ?_
       push_cast -dsimp [c3,e1,g2,g1,c4]
       repeat refine an ?_
       exact dn (by push_cast -dsimp [zb,za,CLe,zd,hno])
     ·refine cl (hm) ?_;push_cast -dsimp [c1,g1,c2]
      repeat refine an ?_
      push_cast -dsimp [c3]
      repeat refine an ?_
      exact ⟨i+1,⟨h,step fun h=>absurd h c3⟩,by omega,wk⟩
  ·have hr:Yv es:=fun j hj=>h2 j hj (by omega)
   push_cast -dsimp [hle,h]
   exact dn (by push_cast -dsimp [zb,za,CLe,zd,hr])
end
section
open CA CB
open Go.RowKit
theorem kS (f:FsV) (hf:FsS f):Fun Tryz.prog G0 142 [.agg (fsC f)] (qy (decide (J8 f))) 0:=by
 have hll:(zp f.xs).length=f.xs.length:=List.length_map ..
 have h40:=hf.len
 refine fon Tryz.func142 ?_;dsimp only[Tryz.f142]
 push_cast -dsimp
 refine loop (fun i:Nat=>⟨[(1,.ptr 0 0),(3,.sc (.int .i64 i))],[fsC f],0,0⟩) (fun i=>i<=f.xs.length/\∀ x∈f.xs.take i,J3 x) (fun i=>f.xs.length-i) 0 ⟨Nat.zero_le _,fun x hx=>by simp at hx⟩ ?_ ?_
 ·exact wk
 ·rintro i ⟨h1,h2⟩
  by_cases h:i<f.xs.length
  case neg =>
   rw[List.take_of_length_le (by omega)]at h2
   have hn:J8 f:=h2
   push_cast -dsimp [hll,h]
   exact dn (by push_cast -dsimp [zb,za,CLe,zd,hn])
  have g1:=qF f.xs i h
  have hbad:¬J3 f.xs[i]->¬J8 f:=fun hn h'=>hn (h' _ (List.getElem_mem h))
  have hs:=hf.node _ (List.getElem_mem h)
  have step:J3 f.xs[i]->∀ x∈f.xs.take (i+1),J3 x:=fun hq=>qc h h2 hq
  push_cast -dsimp [hll,h,g1]
  repeat refine an ?_
  generalize f.xs[i]=x at g1 hbad hs step
  have hle:(qe x.es).length=x.es.length:=List.length_map ..
  have hent:x.es.length<=10000:=hs.1
  by_cases k2:x.kind=2
  ·by_cases d0:x.data = []
   ·have hr:=zbZ x.es (by omega) fun e he=>by have:=hs.2.2 e he;omega
    cases c1:decide (Yv x.es) with
    | false =>
     have hn:=hbad fun hq=>of_decide_eq_false c1 (hq.2.2.1 k2).2
     push_cast -dsimp [k2,d0]
     refine cl (hr) ?_;push_cast -dsimp [c1]
     exact dn (by push_cast -dsimp [zb,za,CLe,zd,hn])
    | true =>
     have hq:J3 x:=⟨.inr (.inl k2),fun h=>absurd k2 h,fun _=>⟨d0,of_decide_eq_true c1⟩,fun h=>by omega⟩
     push_cast -dsimp [k2,d0]
     refine cl (hr) ?_;push_cast -dsimp [c1,k2]
     refine loop (fun j:Nat=>⟨[(1,.ptr 0 0),(3,.sc (.int .i64 i)),(4,.ptr 1 0),(5,.sc (.int .i64 j))],[fsC f,JJ x],0,0⟩) (fun j=>j=0) (fun j=>0) 0 rfl ?_ ?_
     ·exact wk (by push_cast -dsimp [zb,za,CLe,zd,k2,d0]) (by push_cast -dsimp [zb,za,CLe,zd,k2,d0])
     ·rintro j rfl
      push_cast -dsimp [d0]
      repeat refine an ?_
      exact ⟨i+1,⟨h,step hq⟩,by omega,wk⟩
   ·have hn:=hbad fun hq=>d0 (hq.2.2.1 k2).1
    push_cast -dsimp [k2,d0]
    exact dn (by push_cast -dsimp [zb,za,CLe,zd,hn])
  by_cases e0:x.es = []
  case neg =>
   have hn:=hbad fun hq=>e0 (hq.2.1 k2).1
   have hpos:0<(x.es.length:Int):=by have:=List.length_pos_iff.2 e0;omega
   by_cases k1:x.kind=1
   ·push_cast -dsimp [k1,hle,hpos]
    exact dn (by push_cast -dsimp [zb,za,CLe,zd,hn])
   ·by_cases k3:x.kind=3
    ·push_cast -dsimp [k1,k2,k3,hle,hpos]
     exact dn (by push_cast -dsimp [zb,za,CLe,zd,hn])
    ·have hn:=hbad fun hq=>by rcases hq.1 with q | q | q<;>contradiction
     push_cast -dsimp [k1,k2,k3]
     exact dn (by push_cast -dsimp [zb,za,CLe,zd,hn])
  have hl0:x.es.length=0:=by rw[e0];rfl
  by_cases p0:x.parent=0
  case neg =>
   have hn:=hbad fun hq=>p0 (hq.2.1 k2).2
   by_cases k1:x.kind=1
   ·push_cast -dsimp [k1,hle,hl0,p0]
    exact dn (by push_cast -dsimp [zb,za,CLe,zd,hn])
   ·by_cases k3:x.kind=3
    ·push_cast -dsimp [k1,k2,k3,hle,hl0,p0]
     exact dn (by push_cast -dsimp [zb,za,CLe,zd,hn])
    ·have hn:=hbad fun hq=>by rcases hq.1 with q | q | q<;>contradiction
     push_cast -dsimp [k1,k2,k3]
     exact dn (by push_cast -dsimp [zb,za,CLe,zd,hn])
  by_cases k1:x.kind=1
  ·have hq:J3 x:=⟨.inl k1,fun _=>⟨e0,p0⟩,fun h=>absurd h k2,fun h=>by omega⟩
   push_cast -dsimp [k1,hle,hl0,p0]
   refine loop (fun j:Nat=>⟨[(1,.ptr 0 0),(3,.sc (.int .i64 i)),(4,.ptr 1 0),(5,.sc (.int .i64 j))],[fsC f,JJ x],0,0⟩) (fun j=>j=0) (fun j=>0) 0 rfl ?_ ?_
   ·exact wk (by push_cast -dsimp [zb,za,CLe,zd,k1,p0]) (by push_cast -dsimp [zb,za,CLe,zd,k1,p0])
   ·rintro j rfl
    by_cases hd:(0:Int)<x.data.length
    ·push_cast -dsimp [hd,k1]
     repeat refine an ?_
     exact ⟨i+1,⟨h,step hq⟩,by omega,wk⟩
    ·push_cast -dsimp [hd,k1]
     repeat refine an ?_
     exact ⟨i+1,⟨h,step hq⟩,by omega,wk⟩
  by_cases k3:x.kind=3
  case neg =>
   have hn:=hbad fun hq=>by rcases hq.1 with q | q | q<;>contradiction
   push_cast -dsimp [k1,k2,k3]
   exact dn (by push_cast -dsimp [zb,za,CLe,zd,hn])
  by_cases l1:(x.data.length:Int)<1
  ·have hn:=hbad fun hq=>by have:=(hq.2.2.2 k3).1;omega
   push_cast -dsimp [k1,k2,k3,hle,hl0,p0,l1]
   exact dn (by push_cast -dsimp [zb,za,CLe,zd,hn])
  by_cases l2:4095<(x.data.length:Int)
  ·have hn:=hbad fun hq=>by have:=(hq.2.2.2 k3).2.1;omega
   push_cast -dsimp [k1,k2,k3,hle,hl0,p0,l1,l2]
   exact dn (by push_cast -dsimp [zb,za,CLe,zd,hn])
  push_cast -dsimp [k1,k2,k3,hle,hl0,p0,l1,l2]
  refine loop (fun j:Nat=>⟨[(1,.ptr 0 0),(3,.sc (.int .i64 i)),(4,.ptr 1 0),(5,.sc (.int .i64 j))],[fsC f,JJ x],0,0⟩) (fun j=>j<=x.data.length/\∀ b∈x.data.take j,b≠0) (fun j=>x.data.length-j) 0 ⟨Nat.zero_le _,fun b hb=>by simp at hb⟩ ?_ ?_
  ·exact wk (by push_cast -dsimp [zb,za,CLe,zd,k3,p0]) (by push_cast -dsimp [zb,za,CLe,zd,k3,p0])
  ·rintro j ⟨j1,j2⟩
   by_cases hj:j<x.data.length
   ·have hb:x.data[j]?=some x.data[j]:=List.getElem?_eq_getElem hj
    by_cases z:(x.data[j].toNat:Int)=0
    ·have hn:=hbad fun hq=>(hq.2.2.2 k3).2.2 _ (List.getElem_mem hj) (UInt8.toNat_inj.1 (by simpa using z))
     push_cast -dsimp [hj,k3,hb,z]
     repeat refine an ?_
     exact dn (by push_cast -dsimp [zb,za,CLe,zd,hn])
    ·push_cast -dsimp [hj,k3,hb,z]
     repeat refine an ?_
     exact ⟨j+1,⟨hj,qc hj j2 fun hz=>z (by rw[hz];rfl)⟩,by omega,wk⟩
   ·rw[List.take_of_length_le (by omega)]at j2
    have hq:J3 x:=⟨.inr (.inr k3),fun _=>⟨e0,p0⟩,fun h=>absurd h k2,fun _=>⟨by omega,by omega,j2⟩⟩
    push_cast -dsimp [hj,k3]
    repeat refine an ?_
    exact ⟨i+1,⟨h,step hq⟩,by omega,wk⟩
theorem zdz (f:FsV) (hf:FsS f):Fun Tryz.prog G0 95 [.agg (fsC f)] (.sc (.int .i64 (j7 f))) 0:=by
 have h40:=hf.len
 have hb:qm f.xs<=100000000:=by have:=hf.bytes;omega
 refine fon Tryz.func95 ?_;dsimp only[Tryz.f95]
 push_cast -dsimp
 by_cases c1:jX f
 case neg =>
  refine cl (NX f (by omega)) ?_;push_cast -dsimp [decide_eq_false c1]
  exact dn (by push_cast -dsimp [zb,za,CLe,zd,j7,c1])
 refine cl (NX f (by omega)) ?_;push_cast -dsimp [decide_eq_true c1]
 by_cases c2:J8 f
 case neg =>
  refine cl (kS f hf) ?_;push_cast -dsimp [decide_eq_false c2]
  exact dn (by push_cast -dsimp [zb,za,CLe,zd,j7,c1,c2])
 refine cl (kS f hf) ?_;push_cast -dsimp [decide_eq_true c2]
 by_cases c3:JU f
 case neg =>
  refine cl (GK f hf) ?_;push_cast -dsimp [decide_eq_false c3]
  exact dn (by push_cast -dsimp [zb,za,CLe,zd,j7,c1,c2,c3])
 refine cl (GK f hf) ?_;push_cast -dsimp [decide_eq_true c3]
 by_cases c4:Yb f
 case neg =>
  refine cl (kx f hf) ?_;push_cast -dsimp [decide_eq_false c4]
  exact dn (by push_cast -dsimp [zb,za,CLe,zd,j7,c1,c2,c3,c4])
 refine cl (kx f hf) ?_;push_cast -dsimp [decide_eq_true c4]
 by_cases c5:XY f
 case neg =>
  refine cl (Gy f hf c3 c1.2.2.2.2.2.2.2.1) ?_;push_cast -dsimp [decide_eq_false c5]
  exact dn (by push_cast -dsimp [zb,za,CLe,zd,j7,c1,c2,c3,c4,c5])
 refine cl (Gy f hf c3 c1.2.2.2.2.2.2.2.1) ?_;push_cast -dsimp [decide_eq_true c5]
 by_cases c6:UU f
 case neg =>
  refine cl (uh f hf hb) ?_;push_cast -dsimp [decide_eq_false c6]
  exact dn (by push_cast -dsimp [zb,za,CLe,zd,j7,c1,c2,c3,c4,c5,c6])
 refine cl (uh f hf hb) ?_;push_cast -dsimp [decide_eq_true c6]
 exact dn (by push_cast -dsimp [zb,za,CLe,zd,j7,c1,c2,c3,c4,c5,c6])
end
section
open CA CB
open Go.RowKit
def ji (x:zm) (k:zL):Bool:=decide (k.ino=x.ino)&&!k.content
def qi (w:qA) (x:zm):Prop:=zw x.ino w.fs.xs=false/\1<=x.ino/\x.ino<w.fs.next/\x.links=0/\x.parent=0/\x.es = []/\(x.kind=1∨x.kind=2∨x.kind=3)/\(x.kind=2->x.data = [])/\(x.kind=3->1<=x.data.length/\x.data.length<=4095/\∀ b∈x.data,b≠0)/\w.kept.any (ji x)=true
instance (w:qA) (x:zm):Decidable (qi w x):=by unfold qi;infer_instance
theorem zpB {α:Type} {P:α->Bool} {l:List α} {k:Nat} (h:k<l.length):(l.take (k+1)).any P=((l.take k).any P||P l[k]):=by
 rw[List.take_add_one,List.getElem?_eq_getElem h,List.any_append];simp
theorem zaj (w:qA) (x:zm) (hl:w.fs.xs.length<=100000) (hk:w.kept.length<=100000) (he:x.es.length<=100000) (hd:x.data.length<=100000):Fun Tryz.prog G0 97 [Zd w,.agg (JJ x)] (qy (decide (qi w x))) 0:=by
 have hg:=XO (G:=G0) w.fs x.ino hl
 have hkl:(zC w.kept).length=w.kept.length:=List.length_map ..
 have hle:(qe x.es).length=x.es.length:=List.length_map ..
 by_cases c1:zw x.ino w.fs.xs=true
 ·have hn:¬qi w x:=fun h=>by have:=h.1;rw[c1]at this;cases this
  rw[c1]at hg
  refine fon Tryz.func97 ?_;dsimp only[Tryz.f97]
  push_cast -dsimp
  refine cl (hg) ?_;push_cast -dsimp
  exact dn (by push_cast -dsimp [zb,za,CLe,zd,hn])
 have c1:=Bool.eq_false_iff.2 c1
 rw[c1]at hg
 by_cases c2:x.ino<1
 case pos =>
  have hn:¬qi w x:=fun h=>by have:=h.2.1;omega
  refine fon Tryz.func97 ?_;dsimp only[Tryz.f97]
  push_cast -dsimp
  refine cl (hg) ?_;push_cast -dsimp [hle,c2]
  exact dn (by push_cast -dsimp [zb,za,CLe,zd,hn])
 by_cases c3:w.fs.next<=x.ino
 case pos =>
  have hn:¬qi w x:=fun h=>by have:=h.2.2.1;omega
  refine fon Tryz.func97 ?_;dsimp only[Tryz.f97]
  push_cast -dsimp
  refine cl (hg) ?_;push_cast -dsimp [hle,c2,c3]
  exact dn (by push_cast -dsimp [zb,za,CLe,zd,hn])
 by_cases c4:x.links=0
 case neg =>
  have hn:¬qi w x:=fun h=>c4 h.2.2.2.1
  refine fon Tryz.func97 ?_;dsimp only[Tryz.f97]
  push_cast -dsimp
  refine cl (hg) ?_;push_cast -dsimp [hle,c2,c3,c4]
  exact dn (by push_cast -dsimp [zb,za,CLe,zd,hn])
 by_cases c5:x.parent=0
 case neg =>
  have hn:¬qi w x:=fun h=>c5 h.2.2.2.2.1
  refine fon Tryz.func97 ?_;dsimp only[Tryz.f97]
  push_cast -dsimp
  refine cl (hg) ?_;push_cast -dsimp [hle,c2,c3,c4,c5]
  exact dn (by push_cast -dsimp [zb,za,CLe,zd,hn])
 by_cases c6:(x.es.length:Int)=0
 case neg =>
  have hn:¬qi w x:=fun h=>c6 (by rw[h.2.2.2.2.2.1];rfl)
  refine fon Tryz.func97 ?_;dsimp only[Tryz.f97]
  push_cast -dsimp
  refine cl (hg) ?_;push_cast -dsimp [hle,c2,c3,c4,c5,c6]
  exact dn (by push_cast -dsimp [zb,za,CLe,zd,hn])
 by_cases c7:x.kind<1
 case pos =>
  have hn:¬qi w x:=fun h=>by have:=h.2.2.2.2.2.2.1;omega
  refine fon Tryz.func97 ?_;dsimp only[Tryz.f97]
  push_cast -dsimp
  refine cl (hg) ?_;push_cast -dsimp [hle,c2,c3,c4,c5,c6,c7]
  exact dn (by push_cast -dsimp [zb,za,CLe,zd,hn])
 by_cases c8:3<x.kind
 case pos =>
  have hn:¬qi w x:=fun h=>by have:=h.2.2.2.2.2.2.1;omega
  refine fon Tryz.func97 ?_;dsimp only[Tryz.f97]
  push_cast -dsimp
  refine cl (hg) ?_;push_cast -dsimp [hle,c2,c3,c4,c5,c6,c7,c8]
  exact dn (by push_cast -dsimp [zb,za,CLe,zd,hn])
 have hes:x.es = []:=List.eq_nil_of_length_eq_zero (by omega)
 have hkd:x.kind=1∨x.kind=2∨x.kind=3:=by omega
 have key:(x.kind=2->x.data = [])->(x.kind=3->1<=x.data.length/\x.data.length<=4095/\∀ b∈x.data,b≠0)->decide (qi w x)=w.kept.any (ji x):=fun q1 q2=>by
  cases hn:w.kept.any (ji x) with
  | true=>exact decide_eq_true ⟨c1,by omega,by omega,c4,c5,hes,hkd,q1,q2,hn⟩
  | false=>exact decide_eq_false fun h=>by have:=h.2.2.2.2.2.2.2.2.2;rw[hn]at this;cases this
 by_cases k2:x.kind=2
 ·by_cases d0:x.data = []
  ·have hdl:((0:Int)<x.data.length)=False:=eq_false (by rw[d0];simp)
   refine fon Tryz.func97 ?_;dsimp only[Tryz.f97]
   push_cast -dsimp
   refine cl (hg) ?_;push_cast -dsimp [hle,c2,c3,c4,c5,c6,c7,c8,k2,d0,hdl]
   refine loop (fun j:Nat=>⟨[(2,.ptr 0 0),(3,.ptr 1 0),(7,.sc (.int .i64 j))],[kH w,JJ x],0,0⟩) (fun j=>j=0) (fun j=>0) 0 rfl ?_ ?_
   ·exact wk (h5:=by push_cast -dsimp [zb,za,CLe,zd,k2,d0,c4,c5])
   ·rintro j rfl
    push_cast -dsimp [hdl,d0]
    refine loop (fun i:Nat=>⟨[(2,.ptr 0 0),(3,.ptr 1 0),(8,.sc (.bool ((w.kept.take i).any (ji x)))),(9,.sc (.int .i64 i))],[kH w,JJ x],0,0⟩) (fun i=>i<=w.kept.length) (fun i=>w.kept.length-i) 0 (Nat.zero_le _) ?_ ?_
    ·exact wk (by push_cast -dsimp [zb,za,CLe,zd,List.take_zero,List.any_nil])
    ·intro i hi
     by_cases h:i<w.kept.length
     ·have g:=jx w.kept i h
      have ha:=zpB (P:=ji x) h
      have hp:ji x w.kept[i]=(decide (w.kept[i].ino=x.ino)&&!w.kept[i].content):=rfl
      by_cases hn:((w.kept.take i).any (ji x))=true
      ·rw[hn,Bool.true_or]at ha
       push_cast -dsimp [hkl,h,hn]
       repeat refine an ?_
       exact ⟨i+1,h,by omega,wk (by push_cast -dsimp [zb,za,CLe,zd,ha])⟩
      ·have hn:=Bool.eq_false_iff.2 hn
       rw[hn,Bool.false_or,hp]at ha
       by_cases he:w.kept[i].ino=x.ino
       ·rw[decide_eq_true he,Bool.true_and]at ha
        push_cast -dsimp [hkl,h,hn,g,he]
        repeat refine an ?_
        exact ⟨i+1,h,by omega,wk (by push_cast -dsimp [zb,za,CLe,zd,ha])⟩
       ·rw[decide_eq_false he,Bool.false_and]at ha
        push_cast -dsimp [hkl,h,hn,g,he]
        repeat refine an ?_
        exact ⟨i+1,h,by omega,wk (by push_cast -dsimp [zb,za,CLe,zd,ha])⟩
     ·rw[List.take_of_length_le (by omega)]
      have hd:decide (qi w x)=w.kept.any (ji x):=key (fun _=>d0) (fun h=>by omega)
      push_cast -dsimp [hkl,h]
      exact dn (by push_cast -dsimp [zb,za,CLe,zd,hd])
  ·have hn:¬qi w x:=fun h=>d0 (h.2.2.2.2.2.2.2.1 k2)
   refine fon Tryz.func97 ?_;dsimp only[Tryz.f97]
   push_cast -dsimp
   refine cl (hg) ?_;push_cast -dsimp [hle,c2,c3,c4,c5,c6,c7,c8,k2,d0]
   exact dn (by push_cast -dsimp [zb,za,CLe,zd,hn])
 by_cases k3:x.kind=3
 ·by_cases l1:(x.data.length:Int)<1
  ·have hn:¬qi w x:=fun h=>by have:=(h.2.2.2.2.2.2.2.2.1 k3).1;omega
   refine fon Tryz.func97 ?_;dsimp only[Tryz.f97]
   push_cast -dsimp
   refine cl (hg) ?_;push_cast -dsimp [hle,c2,c3,c4,c5,c6,c7,c8,k2,k3,l1]
   exact dn (by push_cast -dsimp [zb,za,CLe,zd,hn])
  by_cases l2:4095<(x.data.length:Int)
  ·have hn:¬qi w x:=fun h=>by have:=(h.2.2.2.2.2.2.2.2.1 k3).2.1;omega
   refine fon Tryz.func97 ?_;dsimp only[Tryz.f97]
   push_cast -dsimp
   refine cl (hg) ?_;push_cast -dsimp [hle,c2,c3,c4,c5,c6,c7,c8,k2,k3,l1,l2]
   exact dn (by push_cast -dsimp [zb,za,CLe,zd,hn])
  refine fon Tryz.func97 ?_;dsimp only[Tryz.f97]
  push_cast -dsimp
  refine cl (hg) ?_;push_cast -dsimp [hle,c2,c3,c4,c5,c6,c7,c8,k2,k3,l1,l2]
  refine loop (fun j:Nat=>⟨[(2,.ptr 0 0),(3,.ptr 1 0),(7,.sc (.int .i64 j))],[kH w,JJ x],0,0⟩) (fun j=>j<=x.data.length/\∀ b∈x.data.take j,b≠0) (fun j=>x.data.length-j) 0 ⟨Nat.zero_le _,fun b hb=>by simp at hb⟩ ?_ ?_
  ·exact wk (h5:=by push_cast -dsimp [zb,za,CLe,zd,k3,c4,c5])
  ·rintro j ⟨j1,j2⟩
   by_cases hj:j<x.data.length
   ·have hb:x.data[j]?=some x.data[j]:=List.getElem?_eq_getElem hj
    by_cases z:(x.data[j].toNat:Int)=0
    ·have hn:¬qi w x:=fun h=>(h.2.2.2.2.2.2.2.2.1 k3).2.2 _ (List.getElem_mem hj) (UInt8.toNat_inj.1 (by simpa using z))
     push_cast -dsimp [hj,k3,hb,z]
     repeat refine an ?_
     exact dn (by push_cast -dsimp [zb,za,CLe,zd,hn])
    ·push_cast -dsimp [hj,k3,hb,z]
     repeat refine an ?_
     exact ⟨j+1,⟨hj,qc hj j2 fun hz=>z (by rw[hz];rfl)⟩,by omega,wk⟩
   ·rw[List.take_of_length_le (by omega)]at j2
    push_cast -dsimp [hj,k3]
    refine loop (fun i:Nat=>⟨[(2,.ptr 0 0),(3,.ptr 1 0),(8,.sc (.bool ((w.kept.take i).any (ji x)))),(9,.sc (.int .i64 i))],[kH w,JJ x],0,0⟩) (fun i=>i<=w.kept.length) (fun i=>w.kept.length-i) 0 (Nat.zero_le _) ?_ ?_
    ·exact wk (by push_cast -dsimp [zb,za,CLe,zd,List.take_zero,List.any_nil])
    ·intro i hi
     by_cases h:i<w.kept.length
     ·have g:=jx w.kept i h
      have ha:=zpB (P:=ji x) h
      have hp:ji x w.kept[i]=(decide (w.kept[i].ino=x.ino)&&!w.kept[i].content):=rfl
      by_cases hn:((w.kept.take i).any (ji x))=true
      ·rw[hn,Bool.true_or]at ha
       push_cast -dsimp [hkl,h,hn]
       repeat refine an ?_
       exact ⟨i+1,h,by omega,wk (by push_cast -dsimp [zb,za,CLe,zd,ha])⟩
      ·have hn:=Bool.eq_false_iff.2 hn
       rw[hn,Bool.false_or,hp]at ha
       by_cases he:w.kept[i].ino=x.ino
       ·rw[decide_eq_true he,Bool.true_and]at ha
        push_cast -dsimp [hkl,h,hn,g,he]
        repeat refine an ?_
        exact ⟨i+1,h,by omega,wk (by push_cast -dsimp [zb,za,CLe,zd,ha])⟩
       ·rw[decide_eq_false he,Bool.false_and]at ha
        push_cast -dsimp [hkl,h,hn,g,he]
        repeat refine an ?_
        exact ⟨i+1,h,by omega,wk (by push_cast -dsimp [zb,za,CLe,zd,ha])⟩
     ·rw[List.take_of_length_le (by omega)]
      have hd:decide (qi w x)=w.kept.any (ji x):=key (fun h=>absurd h k2) (fun _=>⟨by omega,by omega,j2⟩)
      push_cast -dsimp [hkl,h]
      exact dn (by push_cast -dsimp [zb,za,CLe,zd,hd])
 ·have k1:x.kind=1:=by omega
  refine fon Tryz.func97 ?_;dsimp only[Tryz.f97]
  push_cast -dsimp
  refine cl (hg) ?_;push_cast -dsimp [hle,c2,c3,c4,c5,c6,c7,c8,k2,k3]
  refine loop (fun j:Nat=>⟨[(2,.ptr 0 0),(3,.ptr 1 0),(7,.sc (.int .i64 j))],[kH w,JJ x],0,0⟩) (fun j=>j=0) (fun j=>0) 0 rfl ?_ ?_
  ·exact wk (h5:=by push_cast -dsimp [zb,za,CLe,zd,c4,c5])
  ·rintro j rfl
   by_cases hd0:(0:Int)<x.data.length
   ·push_cast -dsimp [hd0,k3]
    refine loop (fun i:Nat=>⟨[(2,.ptr 0 0),(3,.ptr 1 0),(8,.sc (.bool ((w.kept.take i).any (ji x)))),(9,.sc (.int .i64 i))],[kH w,JJ x],0,0⟩) (fun i=>i<=w.kept.length) (fun i=>w.kept.length-i) 0 (Nat.zero_le _) ?_ ?_
    ·exact wk (by push_cast -dsimp [zb,za,CLe,zd,List.take_zero,List.any_nil])
    ·intro i hi
     by_cases h:i<w.kept.length
     ·have g:=jx w.kept i h
      have ha:=zpB (P:=ji x) h
      have hp:ji x w.kept[i]=(decide (w.kept[i].ino=x.ino)&&!w.kept[i].content):=rfl
      by_cases hn:((w.kept.take i).any (ji x))=true
      ·rw[hn,Bool.true_or]at ha
       push_cast -dsimp [hkl,h,hn]
       repeat refine an ?_
       exact ⟨i+1,h,by omega,wk (by push_cast -dsimp [zb,za,CLe,zd,ha])⟩
      ·have hn:=Bool.eq_false_iff.2 hn
       rw[hn,Bool.false_or,hp]at ha
       by_cases he:w.kept[i].ino=x.ino
       ·rw[decide_eq_true he,Bool.true_and]at ha
        push_cast -dsimp [hkl,h,hn,g,he]
        repeat refine an ?_
        exact ⟨i+1,h,by omega,wk (by push_cast -dsimp [zb,za,CLe,zd,ha])⟩
       ·rw[decide_eq_false he,Bool.false_and]at ha
        push_cast -dsimp [hkl,h,hn,g,he]
        repeat refine an ?_
        exact ⟨i+1,h,by omega,wk (by push_cast -dsimp [zb,za,CLe,zd,ha])⟩
     ·rw[List.take_of_length_le (by omega)]
      have hd:decide (qi w x)=w.kept.any (ji x):=key (fun h=>absurd h k2) (fun h=>absurd h k3)
      push_cast -dsimp [hkl,h]
      exact dn (by push_cast -dsimp [zb,za,CLe,zd,hd])
   ·push_cast -dsimp [hd0,k3]
    refine loop (fun i:Nat=>⟨[(2,.ptr 0 0),(3,.ptr 1 0),(8,.sc (.bool ((w.kept.take i).any (ji x)))),(9,.sc (.int .i64 i))],[kH w,JJ x],0,0⟩) (fun i=>i<=w.kept.length) (fun i=>w.kept.length-i) 0 (Nat.zero_le _) ?_ ?_
    ·exact wk (by push_cast -dsimp [zb,za,CLe,zd,List.take_zero,List.any_nil])
    ·intro i hi
     by_cases h:i<w.kept.length
     ·have g:=jx w.kept i h
      have ha:=zpB (P:=ji x) h
      have hp:ji x w.kept[i]=(decide (w.kept[i].ino=x.ino)&&!w.kept[i].content):=rfl
      by_cases hn:((w.kept.take i).any (ji x))=true
      ·rw[hn,Bool.true_or]at ha
       push_cast -dsimp [hkl,h,hn]
       repeat refine an ?_
       exact ⟨i+1,h,by omega,wk (by push_cast -dsimp [zb,za,CLe,zd,ha])⟩
      ·have hn:=Bool.eq_false_iff.2 hn
       rw[hn,Bool.false_or,hp]at ha
       by_cases he:w.kept[i].ino=x.ino
       ·rw[decide_eq_true he,Bool.true_and]at ha
        push_cast -dsimp [hkl,h,hn,g,he]
        repeat refine an ?_
        exact ⟨i+1,h,by omega,wk (by push_cast -dsimp [zb,za,CLe,zd,ha])⟩
       ·rw[decide_eq_false he,Bool.false_and]at ha
        push_cast -dsimp [hkl,h,hn,g,he]
        repeat refine an ?_
        exact ⟨i+1,h,by omega,wk (by push_cast -dsimp [zb,za,CLe,zd,ha])⟩
     ·rw[List.take_of_length_le (by omega)]
      have hd:decide (qi w x)=w.kept.any (ji x):=key (fun h=>absurd h k2) (fun h=>absurd h k3)
      push_cast -dsimp [hkl,h]
      exact dn (by push_cast -dsimp [zb,za,CLe,zd,hd])
end
section
open CA CB
open Go.RowKit
def zfY (w:qA):Prop:=(∀ k∈w.kept,k.data.length<=5000)/\ZU w.fs.xs/\ZU w.pool/\w.kept.length<=40
instance (w:qA):Decidable (zfY w):=by unfold zfY;infer_instance
def Y6 (w:qA) (k:zL):Prop:=k.slot<=1073741824/\(zw k.ino w.fs.xs=true∨zw k.ino w.pool=true)/\(k.content=true->(if zw k.ino w.pool=true then zf k.ino w.pool else zf k.ino w.fs.xs).kind=1)/\(k.content=false->k.data = [])
instance (w:qA) (k:zL):Decidable (Y6 w k):=by unfold Y6;infer_instance
def Xk (ks:List zL):Prop:=qx jG zL.slot ks/\∀ k∈ks,1<=k.slot
instance (ks:List zL):Decidable (Xk ks):=by unfold Xk qx;infer_instance
def Y3 (w:qA):Prop:=j7 w.fs=0/\z7 w.pool/\(∀ x∈w.pool,qi w x)/\Xk w.kept/\∀ k∈w.kept,Y6 w k
instance (w:qA):Decidable (Y3 w):=by unfold Y3;infer_instance
def okW (w:qA):Prop:=zfY w/\Y3 w
instance (w:qA):Decidable (okW w):=by unfold okW;infer_instance
theorem Uu {ks:List zL} (h:Xk ks):0<=jz ks/\∀ k∈ks,k.slot<=jz ks:=by
 rcases List.eq_nil_or_concat ks with rfl | ⟨l,b,rfl⟩
 ·exact ⟨Int.le_refl 0,fun k hk=>by cases hk⟩
 ·rw[List.concat_eq_append]at h ⊢
  have hl:jz (l++[b])=b.slot:=by unfold jz;rw[List.getLast?_append];rfl
  rw[hl]
  have hb:=h.2 b (by simp)
  refine ⟨by omega,fun k hk=>?_⟩
  rcases List.mem_append.1 hk with hk | hk
  ·have:=(List.pairwise_append.1 h.1).2.2 k hk b (by simp)
   have:k.slot<b.slot:=of_decide_eq_true this
   omega
  ·rw[List.mem_singleton.1 hk];exact Int.le_refl _
theorem Uq {ks:List zL} {k:zL}:Xk (ks++[k])↔Xk ks/\jz ks<k.slot:=by
 constructor
 ·rintro ⟨h1,h2⟩
  have h0:Xk ks:=⟨(List.pairwise_append.1 h1).1,fun x hx=>h2 x (List.mem_append_left _ hx)⟩
  refine ⟨h0,?_⟩
  rcases List.eq_nil_or_concat ks with rfl | ⟨l,b,rfl⟩
  ·have:=h2 k (by simp)
   show (0:Int)<k.slot
   omega
  ·rw[List.concat_eq_append]at h1 ⊢
   have hl:jz (l++[b])=b.slot:=by unfold jz;rw[List.getLast?_append];rfl
   rw[hl]
   exact of_decide_eq_true ((List.pairwise_append.1 h1).2.2 b (by simp) k (by simp))
 ·rintro ⟨h,hk⟩
  obtain ⟨q1,q2⟩:=Uu h
  refine ⟨List.pairwise_append.2 ⟨h.1,List.pairwise_singleton _ _,fun a ha b hb=>?_⟩,fun x hx=>?_⟩
  ·rw[List.mem_singleton.1 hb]
   have:=q2 a ha
   exact decide_eq_true (show a.slot<k.slot by omega)
  ·rcases List.mem_append.1 hx with hx | hx
   ·exact h.2 x hx
   ·rw[List.mem_singleton.1 hx];omega
theorem kV (w:qA):Fun Tryz.prog G0 50 [Zd w] (qy (decide (zfY w))) 0:=by
 have hkl:(zC w.kept).length=w.kept.length:=List.length_map ..
 have hf:=uj (G:=G0) w.fs
 have hq:=VU (G:=G0) w
 have hp:=uj (G:=G0) ⟨0,0,0,w.pool⟩
 simp only at hp
 have fin:(∀ k∈w.kept.take 100,k.data.length<=5000)->(zfY w↔ZU w.fs.xs/\ZU w.pool/\w.kept.length<=40):=fun h=>by
  refine ⟨fun q=>q.2,fun q=>⟨?_,q⟩⟩
  rw[List.take_of_length_le (by have:=q.2.2;omega)]at h
  exact h
 refine fon Tryz.func50 ?_;dsimp only[Tryz.f50]
 push_cast -dsimp
 refine loop (fun i:Nat=>⟨[(1,.ptr 0 0),(3,.sc (.int .i64 i))],[kH w],0,0⟩) (fun i=>i<=w.kept.length/\i<=100/\∀ k∈w.kept.take i,k.data.length<=5000) (fun i=>w.kept.length-i) 0 ⟨Nat.zero_le _,Nat.zero_le _,fun x hx=>by simp at hx⟩ ?_ ?_
 ·exact wk
 ·rintro i ⟨h1,h2,h3⟩
  have last:(∀ k∈w.kept.take 100,k.data.length<=5000)->decide (zfY w)=(decide (ZU w.fs.xs)&&(decide (ZU w.pool)&&decide (w.kept.length<=40))):=fun h=>by
   have:=fin h
   by_cases a:ZU w.fs.xs<;>by_cases b:ZU w.pool<;>by_cases c:w.kept.length<=40<;>simp[this,a,b,c]
  by_cases h:i<w.kept.length
  ·by_cases h100:i<100
   ·have g:=jx w.kept i h
    have h100':((i:Int)<100)=True:=eq_true (by omega)
    by_cases hd:5000<(w.kept[i].data.length:Int)
    ·have hn:¬zfY w:=fun q=>by have:=q.1 _ (List.getElem_mem h);omega
     push_cast -dsimp [hkl,h,h100',g,hd]
     repeat refine an ?_
     exact dn (by push_cast -dsimp [zb,za,CLe,zd,hn])
    ·push_cast -dsimp [hkl,h,h100',g,hd]
     repeat refine an ?_
     exact ⟨i+1,⟨h,h100,qc h h3 (by omega)⟩,by omega,wk⟩
   ·have h100':((i:Int)<100)=False:=eq_false (by omega)
    have e:i=100:=by omega
    have hl:=last (by rw[←e];exact h3)
    have h40:((w.kept.length:Int)<=40)=False:=eq_false (by omega)
    rw[decide_eq_false (show ¬w.kept.length<=40 by omega)]at hl
    rw[hl]
    by_cases a:ZU w.fs.xs
    ·by_cases b:ZU w.pool
     ·push_cast -dsimp [hkl,h,h100']
      refine cl (hf) ?_;push_cast -dsimp [decide_eq_true a]
      refine cl (hq) ?_;push_cast -dsimp
      refine cl (hp) ?_;push_cast -dsimp [decide_eq_true b,hkl,h40]
      exact dn (by push_cast -dsimp [zb,za,CLe,zd,a,b,Bool.false_and])
     ·push_cast -dsimp [hkl,h,h100']
      refine cl (hf) ?_;push_cast -dsimp [decide_eq_true a]
      refine cl (hq) ?_;push_cast -dsimp
      refine cl (hp) ?_;push_cast -dsimp [decide_eq_false b]
      exact dn (by push_cast -dsimp [zb,za,CLe,zd,a,b,Bool.false_and])
    ·push_cast -dsimp [hkl,h,h100']
     refine cl (hf) ?_;push_cast -dsimp [decide_eq_false a]
     exact dn (by push_cast -dsimp [zb,za,CLe,zd,a,Bool.false_and])
  ·rw[List.take_of_length_le (by omega)]at h3
   have hl:=last fun k hk=>h3 k (List.mem_of_mem_take hk)
   rw[hl]
   by_cases a:ZU w.fs.xs
   ·by_cases b:ZU w.pool
    ·by_cases c:w.kept.length<=40
     ·have h40:((w.kept.length:Int)<=40)=True:=eq_true (by omega)
      push_cast -dsimp [hkl,h]
      refine cl (hf) ?_;push_cast -dsimp [decide_eq_true a]
      refine cl (hq) ?_;push_cast -dsimp
      refine cl (hp) ?_;push_cast -dsimp [decide_eq_true b,hkl,h40]
      exact dn (by push_cast -dsimp [zb,za,CLe,zd,a,b,c,Bool.false_and])
     ·have h40:((w.kept.length:Int)<=40)=False:=eq_false (by omega)
      push_cast -dsimp [hkl,h]
      refine cl (hf) ?_;push_cast -dsimp [decide_eq_true a]
      refine cl (hq) ?_;push_cast -dsimp
      refine cl (hp) ?_;push_cast -dsimp [decide_eq_true b,hkl,h40]
      exact dn (by push_cast -dsimp [zb,za,CLe,zd,a,b,c,Bool.false_and])
    ·push_cast -dsimp [hkl,h]
     refine cl (hf) ?_;push_cast -dsimp [decide_eq_true a]
     refine cl (hq) ?_;push_cast -dsimp
     refine cl (hp) ?_;push_cast -dsimp [decide_eq_false b]
     exact dn (by push_cast -dsimp [zb,za,CLe,zd,a,b,Bool.false_and])
   ·push_cast -dsimp [hkl,h]
    refine cl (hf) ?_;push_cast -dsimp [decide_eq_false a]
    exact dn (by push_cast -dsimp [zb,za,CLe,zd,a,Bool.false_and])
structure zrd (w:qA):Prop where
 fs:FsS w.fs
 kept:w.kept.length<=10000
 pool:FsS ⟨0,0,0,w.pool⟩
theorem yO (w:qA) (hw:zrd w):Fun Tryz.prog G0 51 [Zd w] (qy (decide (Y3 w))) 0:=by
 have hfl:=hw.fs.len
 have hkk:=hw.kept
 have hpp:w.pool.length<=10000:=hw.pool.len
 have hkl:(zC w.kept).length=w.kept.length:=List.length_map ..
 have hpl:(zp w.pool).length=w.pool.length:=List.length_map ..
 have hch:=zdz w.fs hw.fs
 have hq:=VU (G:=G0) w
 have hri:=Vv (G:=G0) ⟨0,0,0,w.pool⟩ (by simp only;omega)
 by_cases c1:j7 w.fs=0
 case neg =>
  have hn:¬Y3 w:=fun h=>c1 h.1
  refine fof (fun i=>if i=14 then Jl 8 9 else []) Tryz.func51 ?_;dsimp only[Tryz.f51]
  push_cast -dsimp
  refine cl (hch) ?_;push_cast -dsimp [c1]
  exact dn (by push_cast -dsimp [zb,za,CLe,zd,hn])
 by_cases c2:z7 w.pool
 case neg =>
  have hn:¬Y3 w:=fun h=>c2 h.2.1
  rw[decide_eq_false c2]at hri
  refine fof (fun i=>if i=14 then Jl 8 9 else []) Tryz.func51 ?_;dsimp only[Tryz.f51]
  push_cast -dsimp
  refine cl (hch) ?_;push_cast -dsimp [c1]
  refine cl (hq) ?_;push_cast -dsimp
  refine cl (hri) ?_;push_cast -dsimp
  exact dn (by push_cast -dsimp [zb,za,CLe,zd,hn])
 rw[decide_eq_true c2]at hri
 refine fof (fun i=>if i=14 then Jl 8 9 else []) Tryz.func51 ?_;dsimp only[Tryz.f51]
 push_cast -dsimp
 refine cl (hch) ?_;push_cast -dsimp [c1]
 refine cl (hq) ?_;push_cast -dsimp
 refine cl (hri) ?_;push_cast -dsimp
 refine loop (fun i:Nat=>⟨[(1,.ptr 0 0),(3,.sc (.int .i64 i))],[kH w],0,0⟩) (fun i=>i<=w.pool.length/\∀ x∈w.pool.take i,qi w x) (fun i=>w.pool.length-i) 0 ⟨Nat.zero_le _,fun x hx=>by simp at hx⟩ ?_ ?_
 ·exact wk
 rintro i ⟨h1,h2⟩
 by_cases h:i<w.pool.length
 ·have g:=qF w.pool i h
  have hn:=hw.pool.node _ (List.getElem_mem h)
  have hpo:=zaj w w.pool[i] (by omega) (by omega) (by omega) (by omega)
  by_cases c3:qi w w.pool[i]
  ·rw[decide_eq_true c3]at hpo
   push_cast -dsimp [hpl,h,g]
   repeat refine an ?_
   refine cl (hpo) ?_;push_cast -dsimp
   repeat refine an ?_
   exact ⟨i+1,⟨h,qc h h2 c3⟩,by omega,wk⟩
  ·rw[decide_eq_false c3]at hpo
   have hn:¬Y3 w:=fun q=>c3 (q.2.2.1 _ (List.getElem_mem h))
   push_cast -dsimp [hpl,h,g]
   repeat refine an ?_
   refine cl (hpo) ?_;push_cast -dsimp
   exact dn (by push_cast -dsimp [zb,za,CLe,zd,hn])
 rw[List.take_of_length_le (by omega)]at h2
 have hs0:Xk []:=⟨List.Pairwise.nil,fun k hk=>by cases hk⟩
 have hl0:jz []=0:=rfl
 push_cast -dsimp [hpl,h]
 clear hri hq hch
 refine loop (fun i:Nat=>⟨[(1,.ptr 0 0),(4,.sc (.int .i64 (jz (w.kept.take i)))),(5,.sc (.int .i64 i))],[kH w],0,0⟩) (fun i=>i<=w.kept.length/\Xk (w.kept.take i)/\∀ k∈w.kept.take i,Y6 w k) (fun i=>w.kept.length-i) 0 ⟨Nat.zero_le _,by rw[List.take_zero];exact hs0,fun x hx=>by simp at hx⟩ ?_ ?_
 ·exact wk (by push_cast -dsimp [zb,za,CLe,zd,List.take_zero,hl0])
 rintro i ⟨i1,i2,i3⟩
 by_cases hi:i<w.kept.length
 case neg =>
  rw[List.take_of_length_le (by omega)]at i2 i3
  have hn:Y3 w:=⟨c1,c2,h2,i2,i3⟩
  push_cast -dsimp [hkl,hi]
  exact dn (by push_cast -dsimp [zb,za,CLe,zd,hn])
 have g:=jx w.kept i hi
 have hlt:=VL hi
 have hst:w.kept.take (i+1)=w.kept.take i++[w.kept[i]]:=by rw[List.take_add_one,List.getElem?_eq_getElem hi];rfl
 have hbad1:¬jz (w.kept.take i)<w.kept[i].slot->¬Y3 w:=fun hn q=>hn (Uq.1 (by
  rw[←hst]
  exact ⟨q.2.2.2.1.1.sublist (List.take_sublist _ _),fun k hk=>q.2.2.2.1.2 k (List.mem_of_mem_take hk)⟩)).2
 have hbad2:¬Y6 w w.kept[i]->¬Y3 w:=fun hn q=>hn (q.2.2.2.2 _ (List.getElem_mem hi))
 have hgood:jz (w.kept.take i)<w.kept[i].slot->Xk (w.kept.take (i+1)):=fun q=>by rw[hst];exact Uq.2 ⟨i2,q⟩
 have hgood2:Y6 w w.kept[i]->∀ k∈w.kept.take (i+1),Y6 w k:=fun q=>qc hi i3 q
 have hg1:=XO (G:=G0) w.fs w.kept[i].ino (by omega)
 have hq:=VU (G:=G0) w
 have hg2:=XO (G:=G0) ⟨0,0,0,w.pool⟩ w.kept[i].ino (by simp only;omega)
 simp only at hg2
 generalize w.kept[i]=k at g hlt hbad1 hbad2 hgood hgood2 hg1 hg2
 generalize jz (w.kept.take i)=la at hbad1 hgood
 clear hst i2 i3
 by_cases d1:k.slot<=la
 ·have hn:=hbad1 (by omega)
  push_cast -dsimp [hkl,hi,g]
  repeat refine an ?_
  refine cl (hg1) ?_;push_cast -dsimp
  refine cl (hq) ?_;push_cast -dsimp
  refine cl (hg2) ?_;push_cast -dsimp [d1]
  exact dn (by push_cast -dsimp [zb,za,CLe,zd,hn])
 have hgd:=hgood (by omega)
 by_cases d2:1073741824<k.slot
 ·have hn:=hbad2 fun q=>by have:=q.1;omega
  push_cast -dsimp [hkl,hi,g]
  repeat refine an ?_
  refine cl (hg1) ?_;push_cast -dsimp
  refine cl (hq) ?_;push_cast -dsimp
  refine cl (hg2) ?_;push_cast -dsimp [d1,d2]
  exact dn (by push_cast -dsimp [zb,za,CLe,zd,hn])
 cases e2:zw k.ino w.pool with
 | true =>
  rw[e2]at hg2
  by_cases d4:k.content=true
  ·by_cases d5:(zf k.ino w.pool).kind=1
   ·have hok:Y6 w k:=⟨by omega,.inr e2,fun _=>by rw[if_pos e2];exact d5,fun q=>by rw[d4]at q;cases q⟩
    cases e1:zw k.ino w.fs.xs <;>
    ·rw[e1]at hg1
     push_cast -dsimp [hkl,hi,g]
     repeat refine an ?_
     refine cl (hg1) ?_;push_cast -dsimp
     refine cl (hq) ?_;push_cast -dsimp
     refine cl (hg2) ?_;push_cast -dsimp [d1,d2,d4,d5]
     repeat refine an ?_
     exact ⟨i+1,⟨hi,hgd,hgood2 hok⟩,by omega,wk (by push_cast -dsimp [zb,za,CLe,zd,hlt])⟩
   ·have hn:=hbad2 fun q=>d5 (by have:=q.2.2.1 d4;rwa [if_pos e2]at this)
    cases e1:zw k.ino w.fs.xs <;>
    ·rw[e1]at hg1
     push_cast -dsimp [hkl,hi,g]
     repeat refine an ?_
     refine cl (hg1) ?_;push_cast -dsimp
     refine cl (hq) ?_;push_cast -dsimp
     refine cl (hg2) ?_;push_cast -dsimp [d1,d2,d4,d5]
     exact dn (by push_cast -dsimp [zb,za,CLe,zd,hn])
  ·have d4:=Bool.eq_false_iff.2 d4
   by_cases d6:k.data = []
   ·have hok:Y6 w k:=⟨by omega,.inr e2,fun q=>(by rw[d4]at q;cases q),fun _=>d6⟩
    cases e1:zw k.ino w.fs.xs <;>
    ·rw[e1]at hg1
     push_cast -dsimp [hkl,hi,g]
     repeat refine an ?_
     refine cl (hg1) ?_;push_cast -dsimp
     refine cl (hq) ?_;push_cast -dsimp
     refine cl (hg2) ?_;push_cast -dsimp [d1,d2,d4,d6]
     repeat refine an ?_
     exact ⟨i+1,⟨hi,hgd,hgood2 hok⟩,by omega,wk (by push_cast -dsimp [zb,za,CLe,zd,hlt])⟩
   ·have hn:=hbad2 fun q=>d6 (q.2.2.2 d4)
    cases e1:zw k.ino w.fs.xs <;>
    ·rw[e1]at hg1
     push_cast -dsimp [hkl,hi,g]
     repeat refine an ?_
     refine cl (hg1) ?_;push_cast -dsimp
     refine cl (hq) ?_;push_cast -dsimp
     refine cl (hg2) ?_;push_cast -dsimp [d1,d2,d4,d6]
     exact dn (by push_cast -dsimp [zb,za,CLe,zd,hn])
 | false =>
  rw[e2]at hg2
  cases e1:zw k.ino w.fs.xs with
  | false =>
   rw[e1]at hg1
   have hn:=hbad2 fun q=>by
    rcases q.2.1 with q | q
    ·rw[e1]at q;cases q
    ·rw[e2]at q;cases q
   push_cast -dsimp [hkl,hi,g]
   repeat refine an ?_
   refine cl (hg1) ?_;push_cast -dsimp
   refine cl (hq) ?_;push_cast -dsimp
   refine cl (hg2) ?_;push_cast -dsimp [d1,d2]
   exact dn (by push_cast -dsimp [zb,za,CLe,zd,hn])
  | true =>
   rw[e1]at hg1
   have e2':¬zw k.ino w.pool=true:=by rw[e2];decide
   by_cases d4:k.content=true
   ·by_cases d5:(zf k.ino w.fs.xs).kind=1
    ·have hok:Y6 w k:=⟨by omega,.inl e1,fun _=>by rw[if_neg e2'];exact d5,fun q=>by rw[d4]at q;cases q⟩
     push_cast -dsimp [hkl,hi,g]
     repeat refine an ?_
     refine cl (hg1) ?_;push_cast -dsimp
     refine cl (hq) ?_;push_cast -dsimp
     refine cl (hg2) ?_;push_cast -dsimp [d1,d2,d4,d5]
     repeat refine an ?_
     exact ⟨i+1,⟨hi,hgd,hgood2 hok⟩,by omega,wk (by push_cast -dsimp [zb,za,CLe,zd,hlt])⟩
    ·have hn:=hbad2 fun q=>d5 (by have:=q.2.2.1 d4;rwa [if_neg e2']at this)
     push_cast -dsimp [hkl,hi,g]
     repeat refine an ?_
     refine cl (hg1) ?_;push_cast -dsimp
     refine cl (hq) ?_;push_cast -dsimp
     refine cl (hg2) ?_;push_cast -dsimp [d1,d2,d4,d5]
     exact dn (by push_cast -dsimp [zb,za,CLe,zd,hn])
   ·have d4:=Bool.eq_false_iff.2 d4
    by_cases d6:k.data = []
    ·have hok:Y6 w k:=⟨by omega,.inl e1,fun q=>(by rw[d4]at q;cases q),fun _=>d6⟩
     push_cast -dsimp [hkl,hi,g]
     repeat refine an ?_
     refine cl (hg1) ?_;push_cast -dsimp
     refine cl (hq) ?_;push_cast -dsimp
     refine cl (hg2) ?_;push_cast -dsimp [d1,d2,d4,d6]
     repeat refine an ?_
     exact ⟨i+1,⟨hi,hgd,hgood2 hok⟩,by omega,wk (by push_cast -dsimp [zb,za,CLe,zd,hlt])⟩
    ·have hn:=hbad2 fun q=>d6 (q.2.2.2 d4)
     push_cast -dsimp [hkl,hi,g]
     repeat refine an ?_
     refine cl (hg1) ?_;push_cast -dsimp
     refine cl (hq) ?_;push_cast -dsimp
     refine cl (hg2) ?_;push_cast -dsimp [d1,d2,d4,d6]
     exact dn (by push_cast -dsimp [zb,za,CLe,zd,hn])
theorem zfY.m {w:qA} (h:zfY w):zrd w:=⟨h.2.1.fs,by have:=h.2.2.2;omega,ZU.fs (f:=⟨0,0,0,w.pool⟩) h.2.2.1⟩
theorem zeb (w:qA):Fun Tryz.prog G0 22 [Zd w] (qy (decide (okW w))) 0:=by
 by_cases c:zfY w
 ·have h1:=kV w
  have h2:=yO w c.m
  rw[decide_eq_true c]at h1
  have e:decide (okW w)=decide (Y3 w):=by by_cases r:Y3 w<;>simp[okW,c,r]
  refine fon Tryz.func22 ?_;dsimp only[Tryz.f22]
  push_cast -dsimp
  refine cl (h1) ?_;push_cast -dsimp
  refine cl (h2) ?_;push_cast -dsimp
  exact dn (by push_cast -dsimp [zb,za,CLe,zd,e])
 ·have h1:=kV w
  rw[decide_eq_false c]at h1
  have e:¬okW w:=fun h=>c h.1
  refine fon Tryz.func22 ?_;dsimp only[Tryz.f22]
  push_cast -dsimp
  refine cl (h1) ?_;push_cast -dsimp
  exact dn (by push_cast -dsimp [zb,za,CLe,zd,e])
end
section
open Go.RowKit
section
variable {G:zn}
theorem zcj (n:Nat) (hn:n<=200000) (h0:0<n):Y1 Tryz.prog G 161 [.sc (.slice none 0 0),.sc (.int .i64 n)] [] 0 (fun r bx' m=>m=0/\∃ (c:Nat) (B:List C),n<=c/\c<=9223372036854775807/\B.length=c*5/\(B.all C.stayB)=true/\r = .bs 0 0 5 0 c/\bx' = [B]):=by
 have hp:((n:Int)<0)=False:=eq_false (by omega)
 have hq:((0:Int)<(n:Int))=True:=eq_true (by omega)
 refine foX (fun i=>if i=1000000+37 then [true,true] else []) Tryz.func161 ?_;dsimp only[Tryz.f161]
 push_cast -dsimp [hp,hq]
 refine ⟨⟨by omega,by omega⟩,zc7 zhB znh zgz rfl (by decide) rfl (by omega) (by omega) (by omega) (fun c h1 h2=>?_)⟩
 push_cast -dsimp
 have hm:(n:Int).toNat=n:=by omega
 rw[hm]at h1
 have h2:c<=9223372036854775807:=h2
 refine ⟨by omega,by omega,_,[(List.replicate n [C.sc (.int .i64 0),C.sc (.int .i64 0),C.str [],C.str [],C.str []]).flatten++List.replicate ((c-n)*5) C.any],0,⟨⟨rfl,c,_,h1,h2,?_,?_,rfl,rfl⟩,Nat.zero_le _⟩,[],rfl,rfl,?_,by push_cast -dsimp [zb,za,CLe,zd]⟩
 ·simp[hm];omega
 ·simp[List.all_append,List.all_replicate,C.stayB]
 ·push_cast -dsimp [zb,za,CLe,zd]
  exact zN (by simp[List.all_append,List.all_replicate,C.stayB])
theorem uR:Fun Tryz.prog G 103 [.sc (.slice none 0 0),.sc (.int .i64 0)] (.sc (.slice none 0 0)) 0:=by
 refine fon Tryz.func103 ?_;dsimp only[Tryz.f103]
 push_cast -dsimp
 exact dn
theorem zdJ (n:Nat) (hn:n<=200000) (h0:0<n):Y1 Tryz.prog G 103 [.sc (.slice none 0 0),.sc (.int .i64 n)] [] 0 (fun r bx' m=>m=0/\∃ (c:Nat) (B:List C),n<=c/\c<=9223372036854775807/\B.length=c*1/\(B.all C.stayB)=true/\r = .bs 0 0 1 0 c/\bx' = [B]):=by
 have hp:((n:Int)<0)=False:=eq_false (by omega)
 have hq:((0:Int)<(n:Int))=True:=eq_true (by omega)
 refine foX (fun i=>if i=1000000+30 then [true,true] else []) Tryz.func103 ?_;dsimp only[Tryz.f103]
 push_cast -dsimp [hp,hq]
 refine ⟨⟨by omega,by omega⟩,zc7 zgX znh zpz rfl (by decide) rfl (by omega) (by omega) (by omega) (fun c h1 h2=>?_)⟩
 push_cast -dsimp
 have hm:(n:Int).toNat=n:=by omega
 rw[hm]at h1
 have h2:c<=9223372036854775807:=h2
 refine ⟨by omega,by omega,_,[(List.replicate n [C.str []]).flatten++List.replicate ((c-n)*1) C.any],0,⟨⟨rfl,c,_,h1,h2,?_,?_,rfl,rfl⟩,Nat.zero_le _⟩,[],rfl,rfl,?_,by push_cast -dsimp [zb,za,CLe,zd]⟩
 ·simp[hm];omega
 ·simp[List.all_append,List.all_replicate,C.stayB]
 ·push_cast -dsimp [zb,za,CLe,zd]
  exact zN (by simp[List.all_append,List.all_replicate,C.stayB])
end
end
section
open CA CB
open Go.RowKit
def szN (a b:Nat):Nat->Nat
 | 0=>0
 | 1=>a
 | _=>a+b
def zmJ {α:Type} (a b:List α):Nat->List α
 | 0=>[]
 | 1=>a
 | _=>a++b
structure Hc (k c:Nat) (a b:List (List C)) (j:Nat) (X:List C):Prop where
 len:X.length=c*k
 stay:(X.all C.stayB)=true
 cells:X.take (szN a.length b.length j*k)=(zmJ a b j).flatten
theorem Hc.step {k c:Nat} {a b r:List (List C)} {j:Nat} {X:List C} (h:Hc k c a b j X) (hr:zmJ a b (j+1)=zmJ a b j++r) (hn:szN a.length b.length (j+1)=szN a.length b.length j+r.length) (hk:∀ x∈r,x.length=k) (hs:jo r) (hc:szN a.length b.length (j+1)<=c) :
  Hc k c a b (j+1) (spl X (szN a.length b.length j*k) r.flatten):=by
 have hf:=qp hk
 obtain ⟨h1,h2,h3⟩:=h
 have hle:(szN a.length b.length j+r.length)*k<=c*k:=Nat.mul_le_mul_right k (by omega)
 rw[Nat.add_mul]at hle
 refine ⟨by rw[ZQ (by omega)];exact h1,?_,?_⟩
 ·unfold spl
  rw[List.all_append,List.all_append,Bool.and_eq_true,Bool.and_eq_true]
  rw[List.all_eq_true]at h2
  exact ⟨⟨List.all_eq_true.2 fun x hx=>h2 x (List.mem_of_mem_take hx),XE hs⟩,List.all_eq_true.2 fun x hx=>h2 x (List.mem_of_mem_drop hx)⟩
 ·unfold spl
  rw[hn,Nat.add_mul,hr,List.flatten_append,←h3,List.append_assoc,List.take_append]
  have e1:(X.take (szN a.length b.length j*k)).length=szN a.length b.length j*k:=by rw[List.length_take];omega
  rw[e1,List.take_of_length_le (by omega),Nat.add_sub_cancel_left,List.take_append,←hf,List.take_of_length_le (Nat.le_refl _)]
  simp
structure zox (k c:Nat) (rows:List (List C)) (B:List C):Prop where
 fit:rows.length<=c
 max:c<=9223372036854775807
 len:B.length=c*k
 stay:(B.all C.stayB)=true
 cells:B.take (rows.length*k)=rows.flatten
theorem zox.ok {k c e i:Nat} {rows:List (List C)} {B:List C} {bx:List (List C)} (h:zox k c rows B) (hb:bx[i]?=some B) (h0:0<rows.length) (hk:∀ r∈rows,r.length=k):zbx [(i,e,k,rows,c)] bx:=
 vL hb (Nat.lt_of_lt_of_le h0 h.fit) h.fit h.max h.len hk h.stay h.cells
section
variable {G:zn}
theorem zcM (a b:List (List C)) (ka:∀ r∈a,r.length=5) (kb:∀ r∈b,r.length=5) (sa:jo a) (sb:jo b) (la:a.length<=90000) (lb:b.length<=90000) (h0:0<a.length+b.length) :
  Y1 Tryz.prog G 123 [.sl 1 [[.sl 5 a],[.sl 5 b]]] [] 0 (fun r bx n=>n=0/\∃ c B,zox 5 c (a++b) B/\r = .bs 0 0 5 (a++b).length c/\bx = [B]):=by
 refine foX (fun i=>if i=1000000+37 then [true,true] else []) Tryz.func123 ?_;dsimp only[Tryz.f123]
 push_cast -dsimp
 refine loop (fun j:Nat=>⟨[(0,.sl 1 [[.sl 5 a],[.sl 5 b]]),(2,.sc (.slice none 0 0)),(3,.sc (.int .i64 (szN a.length b.length j:Nat))),(9,.sl 1 [[.sl 5 a],[.sl 5 b]]),(10,.sc (.int .i64 2)),(11,.sc (.int .i64 j))],[],0,0⟩) (fun j=>j<=2) (fun j=>2-j) 0 (by decide) ?_ ?_
 ·exact wk (by push_cast -dsimp [zb,za,CLe,zd,szN])
 intro j hj
 obtain rfl | rfl | rfl:j=0∨j=1∨j=2:=by omega
 ·have hn:(((a.length:Int))<0)=False:=eq_false (by omega)
  push_cast -dsimp [szN,hn]
  exact ⟨⟨by omega,by omega⟩,1,by decide,by decide,wk (by push_cast -dsimp [zb,za,CLe,zd,szN])⟩
 ·have hn:(((a.length:Int)+(b.length:Int))<0)=False:=eq_false (by omega)
  push_cast -dsimp [szN,hn]
  exact ⟨⟨by omega,by omega⟩,2,by decide,by decide,wk (by push_cast -dsimp [zb,za,CLe,zd,szN])⟩
 ·push_cast -dsimp [szN]
  refine jS [] [] (zcj (G:=G) (a.length+b.length) (by omega) (by omega)) rfl (by decide) (by decide) (by simp) (by push_cast -dsimp) (by push_cast -dsimp) (fun r bx' m hp=>?_)
  obtain ⟨rfl,c,B,h1,h2,h3,h4,rfl,rfl⟩:=hp
  have hre:∀ fp fo,C.reL fp fo B=B:=fun fp fo=>zD h4
  push_cast -dsimp [hre]
  refine loop (fun p:Nat×List C=>⟨[(0,.sl 1 [[.sl 5 a],[.sl 5 b]]),(6,.bs 0 0 5 (szN a.length b.length p.1) c),(25,.sl 1 [[.sl 5 a],[.sl 5 b]]),(26,.sc (.int .i64 2)),(27,.sc (.int .i64 p.1))],[p.2],0,0⟩) (fun p=>p.1<=2/\Hc 5 c a b p.1 p.2) (fun p=>2-p.1) (0,B) ⟨Nat.zero_le _,h3,h4,by simp[szN,zmJ]⟩ ?_ ?_
  ·exact Jc.mk [] rfl rfl (Nat.zero_le _) rfl (by push_cast -dsimp [zb,za,CLe,zd,szN]) (by (push_cast -dsimp [zb,za,CLe,zd];exact zN h4))
  rintro ⟨j,X⟩ ⟨hj,hX⟩
  have hj:j<=2:=hj
  obtain rfl | rfl | rfl:j=0∨j=1∨j=2:=by omega
  ·have hs:=hX.step (r:=a) rfl (by simp[szN]) ka sa (by simp[szN];omega)
   push_cast -dsimp [szN]
   refine Ue zhB zgz rfl rfl (by decide) rfl (qp ka) rfl (by rw[hX.len];omega) (Nat.zero_le _) (by omega) (by omega) (fun hc=>?_) (fun hc=>absurd hc (by omega))
   push_cast -dsimp
   have hs:Hc 5 c a b 1 (spl X 0 a.flatten):=by simpa [szN] using hs
   exact ⟨(1,spl X 0 a.flatten),⟨Nat.le_succ 1,hs⟩,by (simp only;omega),Jc.mk [] rfl rfl (Nat.zero_le _) rfl (by push_cast -dsimp [zb,za,CLe,zd,szN]) (by (push_cast -dsimp [zb,za,CLe,zd];exact zN hs.stay))⟩
  ·have hs:=hX.step (r:=b) rfl (by simp[szN]) kb sb (by simp[szN];omega)
   push_cast -dsimp [szN]
   refine Ue zhB zgz rfl rfl (by decide) rfl (qp kb) rfl (by rw[hX.len];omega) (by omega) (by omega) (by omega) (fun hc=>?_) (fun hc=>absurd hc (by omega))
   push_cast -dsimp
   have hs:Hc 5 c a b 2 (spl X (a.length*5) b.flatten):=by simpa [szN] using hs
   exact ⟨(2,spl X (a.length*5) b.flatten),⟨Nat.le_refl 2,hs⟩,by (simp only;omega),Jc.mk [] rfl rfl (Nat.zero_le _) rfl (by push_cast -dsimp [zb,za,CLe,zd,szN]) (by (push_cast -dsimp [zb,za,CLe,zd];exact zN hs.stay))⟩
  ·push_cast -dsimp [szN]
   exact ⟨_,[X],0,⟨⟨rfl,c,X,⟨by rw[List.length_append];omega,h2,hX.len,hX.stay,by rw[List.length_append];exact hX.cells⟩,rfl,rfl⟩,Nat.zero_le _⟩,[],rfl,rfl,by (push_cast -dsimp [zb,za,CLe,zd];exact zN hX.stay),by push_cast -dsimp [zb,za,CLe,zd,List.length_append]⟩
theorem MM (a b:List (List C)) (ka:∀ r∈a,r.length=1) (kb:∀ r∈b,r.length=1) (sa:jo a) (sb:jo b) (la:a.length<=90000) (lb:b.length<=90000) (h0:0<a.length+b.length) :
  Y1 Tryz.prog G 58 [.sl 1 [[.sl 1 a],[.sl 1 b]]] [] 0 (fun r bx n=>n=0/\∃ c B,zox 1 c (a++b) B/\r = .bs 0 0 1 (a++b).length c/\bx = [B]):=by
 refine foX (fun i=>if i=1000000+30 then [true,true] else []) Tryz.func58 ?_;dsimp only[Tryz.f58]
 push_cast -dsimp
 refine loop (fun j:Nat=>⟨[(0,.sl 1 [[.sl 1 a],[.sl 1 b]]),(2,.sc (.slice none 0 0)),(3,.sc (.int .i64 (szN a.length b.length j:Nat))),(9,.sl 1 [[.sl 1 a],[.sl 1 b]]),(10,.sc (.int .i64 2)),(11,.sc (.int .i64 j))],[],0,0⟩) (fun j=>j<=2) (fun j=>2-j) 0 (by decide) ?_ ?_
 ·exact wk (by push_cast -dsimp [zb,za,CLe,zd,szN])
 intro j hj
 obtain rfl | rfl | rfl:j=0∨j=1∨j=2:=by omega
 ·have hn:(((a.length:Int))<0)=False:=eq_false (by omega)
  push_cast -dsimp [szN,hn]
  exact ⟨⟨by omega,by omega⟩,1,by decide,by decide,wk (by push_cast -dsimp [zb,za,CLe,zd,szN])⟩
 ·have hn:(((a.length:Int)+(b.length:Int))<0)=False:=eq_false (by omega)
  push_cast -dsimp [szN,hn]
  exact ⟨⟨by omega,by omega⟩,2,by decide,by decide,wk (by push_cast -dsimp [zb,za,CLe,zd,szN])⟩
 ·push_cast -dsimp [szN]
  refine jS [] [] (zdJ (G:=G) (a.length+b.length) (by omega) (by omega)) rfl (by decide) (by decide) (by simp) (by push_cast -dsimp) (by push_cast -dsimp) (fun r bx' m hp=>?_)
  obtain ⟨rfl,c,B,h1,h2,h3,h4,rfl,rfl⟩:=hp
  have hre:∀ fp fo,C.reL fp fo B=B:=fun fp fo=>zD h4
  push_cast -dsimp [hre]
  refine loop (fun p:Nat×List C=>⟨[(0,.sl 1 [[.sl 1 a],[.sl 1 b]]),(6,.bs 0 0 1 (szN a.length b.length p.1) c),(25,.sl 1 [[.sl 1 a],[.sl 1 b]]),(26,.sc (.int .i64 2)),(27,.sc (.int .i64 p.1))],[p.2],0,0⟩) (fun p=>p.1<=2/\Hc 1 c a b p.1 p.2) (fun p=>2-p.1) (0,B) ⟨Nat.zero_le _,h3,h4,by simp[szN,zmJ]⟩ ?_ ?_
  ·exact Jc.mk [] rfl rfl (Nat.zero_le _) rfl (by push_cast -dsimp [zb,za,CLe,zd,szN]) (by (push_cast -dsimp [zb,za,CLe,zd];exact zN h4))
  rintro ⟨j,X⟩ ⟨hj,hX⟩
  have hj:j<=2:=hj
  obtain rfl | rfl | rfl:j=0∨j=1∨j=2:=by omega
  ·have hs:=hX.step (r:=a) rfl (by simp[szN]) ka sa (by simp[szN];omega)
   push_cast -dsimp [szN]
   refine Ue zgX zpz rfl rfl (by decide) rfl (qp ka) rfl (by rw[hX.len];omega) (Nat.zero_le _) (by omega) (by omega) (fun hc=>?_) (fun hc=>absurd hc (by omega))
   push_cast -dsimp
   have hs:Hc 1 c a b 1 (spl X 0 a.flatten):=by simpa [szN] using hs
   exact ⟨(1,spl X 0 a.flatten),⟨Nat.le_succ 1,hs⟩,by (simp only;omega),Jc.mk [] rfl rfl (Nat.zero_le _) rfl (by push_cast -dsimp [zb,za,CLe,zd,szN]) (by (push_cast -dsimp [zb,za,CLe,zd];exact zN hs.stay))⟩
  ·have hs:=hX.step (r:=b) rfl (by simp[szN]) kb sb (by simp[szN];omega)
   push_cast -dsimp [szN]
   refine Ue zgX zpz rfl rfl (by decide) rfl (qp kb) rfl (by rw[hX.len];omega) (by omega) (by omega) (by omega) (fun hc=>?_) (fun hc=>absurd hc (by omega))
   push_cast -dsimp
   have hs:Hc 1 c a b 2 (spl X (a.length) b.flatten):=by simpa [szN] using hs
   exact ⟨(2,spl X (a.length) b.flatten),⟨Nat.le_refl 2,hs⟩,by (simp only;omega),Jc.mk [] rfl rfl (Nat.zero_le _) rfl (by push_cast -dsimp [zb,za,CLe,zd,szN]) (by (push_cast -dsimp [zb,za,CLe,zd];exact zN hs.stay))⟩
  ·push_cast -dsimp [szN]
   exact ⟨_,[X],0,⟨⟨rfl,c,X,⟨by rw[List.length_append];omega,h2,hX.len,hX.stay,by rw[List.length_append];exact hX.cells⟩,rfl,rfl⟩,Nat.zero_le _⟩,[],rfl,rfl,by (push_cast -dsimp [zb,za,CLe,zd];exact zN hX.stay),by push_cast -dsimp [zb,za,CLe,zd,List.length_append]⟩
theorem Nz:Fun Tryz.prog G 58 [.sl 1 [[.sl 1 []],[.sl 1 []]]] (.sl 1 []) 0:=by
 refine fon Tryz.func58 ?_;dsimp only[Tryz.f58]
 push_cast -dsimp
 refine loop (fun j:Nat=>⟨[(0,.sl 1 [[.sl 1 []],[.sl 1 []]]),(2,.sc (.slice none 0 0)),(3,.sc (.int .i64 0)),(9,.sl 1 [[.sl 1 []],[.sl 1 []]]),(10,.sc (.int .i64 2)),(11,.sc (.int .i64 j))],[],0,0⟩) (fun j=>j<=2) (fun j=>2-j) 0 (by decide) ?_ ?_
 ·exact wk
 intro j hj
 obtain rfl | rfl | rfl:j=0∨j=1∨j=2:=by omega
 ·push_cast -dsimp
  exact ⟨1,by decide,by decide,wk⟩
 ·push_cast -dsimp
  exact ⟨2,by decide,by decide,wk⟩
 ·push_cast -dsimp
  refine cl (uR) ?_;push_cast -dsimp
  refine loop (fun j:Nat=>⟨[(0,.sl 1 [[.sl 1 []],[.sl 1 []]]),(6,.own 0 9 1 []),(25,.sl 1 [[.sl 1 []],[.sl 1 []]]),(26,.sc (.int .i64 2)),(27,.sc (.int .i64 j))],[],1,0⟩) (fun j=>j<=2) (fun j=>2-j) 0 (by decide) ?_ ?_
  ·exact wks [.inr (9,1)]
  intro j hj
  obtain rfl | rfl | rfl:j=0∨j=1∨j=2:=by omega
  ·push_cast -dsimp
   exact ⟨1,by decide,by decide,wks [.inl 0]⟩
  ·push_cast -dsimp
   exact ⟨2,by decide,by decide,wks [.inl 0]⟩
  ·push_cast -dsimp
   exact dn
end
end
end Go.Proofs.YtlkjpfiancahiaaGreatDoor.Vcg
section
namespace Go.Proofs.YtlkjpfiancahiaaGreatDoor.Kit
open Go.RowKit
theorem kF {a b:ByteArray} (h:a=b):Ending.returned (.string a) = .returned (.string b):=by rw[h]
def toL (s:ByteArray):List UInt8:=s.data.toList
def ofL (l:List UInt8):ByteArray:=⟨l.toArray⟩
@[simp] theorem zew (l:List UInt8):toL (ofL l)=l:=by simp[toL,ofL]
@[simp] theorem zpY (s:ByteArray):ofL (toL s)=s:=by cases s;simp[toL,ofL]
theorem ko (a b:List UInt8):ofL a++ofL b=ofL (a++b):=ByteArray.mk_append_mk a b
theorem Hw (s:ByteArray):(toL s).length=s.size:=Array.length_toList
theorem QL (l:List UInt8):(ofL l).size=l.length:=by rw[←Hw,zew]
def join (sep:ByteArray) (xs:List ByteArray):ByteArray:=⟨(Lib.join (xs.map (·.data.toList)) sep.data.toList).toArray⟩
theorem join_one (sep x:ByteArray):join sep [x]=x:=by
 cases x;simp[join,Lib.join_one]
end Go.Proofs.YtlkjpfiancahiaaGreatDoor.Kit
end
section
namespace Go.Proofs.YtlkjpfiancahiaaGreatDoor.Kit
open Go.RowKit
def byteCells (l:List UInt8):Array Value:=(l.map fun c=>Value.int .u8 (c.toNat:Int)).toArray
theorem Mv (w:World) (l:List UInt8) (T:TypeId) (fr:Nat×Nat) (n:Nat) (hn:n=w.heap.size):Lib.Bytes (w.alloc (.cells (byteCells l) T fr)) n 0 (ofL l):=by
 intro i h
 subst hn
 have h1:(w.alloc (.cells (byteCells l) T fr)).heap[w.heap.size]?=some (.cells (byteCells l) T fr):=by
  show (w.heap.push _)[w.heap.size]?=_
  rw[Array.getElem?_push,if_pos rfl]
 simp only[World.cell?,h1]
 show (byteCells l)[0+i]?=_
 have h2:i<l.length:=by rw[QL]at h;exact h
 rw[Nat.zero_add,byteCells,List.getElem?_toArray,List.getElem?_map,List.getElem?_eq_getElem h2]
 rfl
theorem HS {P:Program} (w:World) (l:List UInt8) (src e dst:TypeId) (hs:P.underlying src=some (.slice e)) (he:P.underlying e=some (.int .u8)) (hd:P.underlying dst=some .string) (cs:Array Value) (hcs:cs=byteCells l) (fr:Nat×Nat) (m cap n:Nat) (hm:m=w.heap.size) (hn:n=l.length) :
  (convert src dst (.slice (some ⟨m,0,none⟩) n cap)).run P (w.alloc (.cells cs e fr)) = .ok (.string (ofL l)) (w.alloc (.cells cs e fr)):=by
 subst hcs hm hn
 have:=Lib.run_convert_whole (P:=P) (w.alloc (.cells (byteCells l) e fr)) src e dst hs he hd w.heap.size 0 (ofL l) (Mv w l e fr _ rfl) cap
 rw[QL]at this
 exact this
end Go.Proofs.YtlkjpfiancahiaaGreatDoor.Kit
end
section
namespace Go.Proofs.YtlkjpfiancahiaaGreatDoor
open Go.RowKit
namespace QuoteWalk
open Kit QuotePlain
theorem GP {c:UInt8} (h:good c=false):¬(32:Int)<=(c.toNat:Int)∨((32:Int)<=(c.toNat:Int)/\¬(c.toNat:Int)<=126)∨((32:Int)<=(c.toNat:Int)/\(c.toNat:Int)<=126/\((c.toNat:Int) != 34)=false) ∨
  ((32:Int)<=(c.toNat:Int)/\(c.toNat:Int)<=126/\((c.toNat:Int) != 34)=true/\((c.toNat:Int) != 92)=false):=by
 simp only[good,decide_eq_false_iff_not]at h
 simp only[bne_iff_ne,ne_eq,bne_eq_false_iff_eq]
 omega
theorem kA {c:UInt8} (h:good c=true):(32:Int)<=(c.toNat:Int)/\(c.toNat:Int)<=126/\((c.toNat:Int) != 34)=true/\((c.toNat:Int) != 92)=true:=by
 simp only[good,decide_eq_true_eq]at h
 refine ⟨by omega,by omega,?_,?_⟩<;>(simp only[bne_iff_ne,ne_eq];omega)
theorem MY (c:UInt8) (w:World) :
  Calls Tryz.prog 176 #[.int .u8 c.toNat] w fun e w'=>e = .returned (.bool (good c))/\w=w':=by
 have hc:=c.toNat_lt
 cases hg:good c with
 | true =>
  obtain ⟨g1,g2,g3,g4⟩:=kA hg
  clear hg
  go_enter Tryz.func176,Tryz.ntmps176
  go_wp2
  go_ret
  exact ⟨rfl,rfl⟩
 | false =>
  rcases GP hg with h | ⟨h0,h⟩ | ⟨h0,h1,h2⟩ | ⟨h0,h1,h2,h3⟩
  all_goals clear hg
  ·go_enter Tryz.func176,Tryz.ntmps176
   go_wp2
   go_ret
   exact ⟨rfl,rfl⟩
  ·go_enter Tryz.func176,Tryz.ntmps176
   go_wp2
   go_ret
   exact ⟨rfl,rfl⟩
  ·go_enter Tryz.func176,Tryz.ntmps176
   go_wp2
   go_ret
   exact ⟨rfl,rfl⟩
  ·go_enter Tryz.func176,Tryz.ntmps176
   go_wp2
   go_ret
   exact ⟨rfl,rfl⟩
theorem No (c:UInt8) (w:World) (hg:good c=true) :
  Calls Tryz.prog 98 #[.int .u8 c.toNat] w fun e w'=>e = .returned (.string (ofL (qb c)))/\Below w.heap.size w w':=by
 have hc:=c.toNat_lt
 have hq:=Lib.hid (show qb c = [c] by rw[qb,if_pos hg])
 obtain ⟨g1,g2,g3,g4⟩:=kA hg
 have hcv:=HS (P:=Tryz.prog) w [c] 153 5 9 Tryz.underlying153 Tryz.underlying5 Tryz.underlying9 #[.int .u8 c.toNat] rfl (0,0) w.heap.size 1 1 rfl rfl
 clear hg
 go_enter Tryz.func98,Tryz.ntmps98
 go_wp2
 go_ret
 exact ⟨by rw[hq.out];rfl,(Below.refl _ _).alloc (Nat.le_refl _) _⟩
theorem zq7 (n:Nat) (h:n<16) (w:World):(Instr.index 9 (.string ⟨#[48,49,50,51,52,53,54,55,56,57,97,98,99,100,101,102]⟩) (.int .u8 (n:Int))).run Tryz.prog w = .ok (.int .u8 ((HV n).toNat:Int)) w:=by
 rcases (by omega:n=0∨n=1∨n=2∨n=3∨n=4∨n=5∨n=6∨n=7∨n=8∨n=9∨n=10∨n=11∨n=12∨n=13∨n=14∨n=15) with rfl | rfl | rfl | rfl | rfl | rfl | rfl | rfl | rfl | rfl | rfl | rfl | rfl | rfl | rfl | rfl
 all_goals kernel_rfl
theorem zjJ (c:UInt8) (w:World):(Instr.index 9 (.string ⟨#[48,49,50,51,52,53,54,55,56,57,97,98,99,100,101,102]⟩) (.int .u8 ((c.toNat:Int) / 16))).run Tryz.prog w = .ok (.int .u8 ((HV (c.toNat / 16)).toNat:Int)) w:=
 zq7 (c.toNat / 16) (by have:=c.toNat_lt;omega) w
theorem zjv (c:UInt8) (w:World):(Instr.index 9 (.string ⟨#[48,49,50,51,52,53,54,55,56,57,97,98,99,100,101,102]⟩) (.int .u8 ((c.toNat:Int) % 16))).run Tryz.prog w = .ok (.int .u8 ((HV (c.toNat % 16)).toNat:Int)) w:=
 zq7 (c.toNat % 16) (by omega) w
theorem zkb (c:UInt8):IntKind.u8.wrap ((c.toNat:Int) / 16)=(c.toNat:Int) / 16:=by
 have:=c.toNat_lt
 exact IntWalk.u8_in _ (by omega)
theorem zjS (c:UInt8):IntKind.u8.wrap ((c.toNat:Int) % 16)=(c.toNat:Int) % 16:=by
 have:=c.toNat_lt
 exact IntWalk.u8_in _ (by omega)
theorem zkH (c:UInt8):(c.toNat:Int).tmod 16=(c.toNat:Int) % 16:=Int.tmod_eq_emod_of_nonneg (by omega)
theorem xW (c:UInt8) (w:World) (hg:good c=false) :
  Calls Tryz.prog 98 #[.int .u8 c.toNat] w fun e w'=>e = .returned (.string (ofL (qb c)))/\Below w.heap.size w w':=by
 have hc:=c.toNat_lt
 have hq:=Lib.hid (show qb c = [92,120,HV (c.toNat / 16),HV (c.toNat % 16)] by rw[qb,hg];rfl)
 have hb:=GP hg
 have x1:=zjJ c
 have x2:=zjv c
 have y1:=zkb c
 have y2:=zjS c
 have y3:=zkH c
 have hcv:=fun w2:World=>HS (P:=Tryz.prog) w2 [92,120,HV (c.toNat / 16),HV (c.toNat % 16)] 153 5 9 Tryz.underlying153 Tryz.underlying5 Tryz.underlying9 #[.int .u8 92,.int .u8 120,.int .u8 (HV (c.toNat / 16)).toNat,.int .u8 (HV (c.toNat % 16)).toNat] rfl (0,0) w2.heap.size 4 4 rfl rfl
 clear hg
 rcases hb with h | ⟨h0,h⟩ | ⟨h0,h1,h2⟩ | ⟨h0,h1,h2,h3⟩
 ·go_enter Tryz.func98,Tryz.ntmps98
  go_wp2
  go_still_tail 6,(by kernel_rfl)
  change wpList _ _ _ _ _ w.drew
  obtain ⟨w2,hw2,hsz⟩:∃ w2:World,Below w.heap.size w w2/\w2=w.drew:=⟨_,(Below.refl _ _).drew,rfl⟩
  rw[←hsz]
  clear hsz
  go_wp2
  go_ret
  exact ⟨by rw[hq.out];rfl,hw2.alloc hw2.size _⟩
 ·go_enter Tryz.func98,Tryz.ntmps98
  go_wp2
  go_still_tail 6,(by kernel_rfl)
  change wpList _ _ _ _ _ w.drew
  obtain ⟨w2,hw2,hsz⟩:∃ w2:World,Below w.heap.size w w2/\w2=w.drew:=⟨_,(Below.refl _ _).drew,rfl⟩
  rw[←hsz]
  clear hsz
  go_wp2
  go_ret
  exact ⟨by rw[hq.out];rfl,hw2.alloc hw2.size _⟩
 ·go_enter Tryz.func98,Tryz.ntmps98
  go_wp2
  go_still_tail 6,(by kernel_rfl)
  change wpList _ _ _ _ _ w.drew
  obtain ⟨w2,hw2,hsz⟩:∃ w2:World,Below w.heap.size w w2/\w2=w.drew:=⟨_,(Below.refl _ _).drew,rfl⟩
  rw[←hsz]
  clear hsz
  go_wp2
  go_ret
  exact ⟨by rw[hq.out];rfl,hw2.alloc hw2.size _⟩
 ·go_enter Tryz.func98,Tryz.ntmps98
  go_wp2
  go_still_tail 6,(by kernel_rfl)
  change wpList _ _ _ _ _ w.drew
  obtain ⟨w2,hw2,hsz⟩:∃ w2:World,Below w.heap.size w w2/\w2=w.drew:=⟨_,(Below.refl _ _).drew,rfl⟩
  rw[←hsz]
  clear hsz
  go_wp2
  go_ret
  exact ⟨by rw[hq.out];rfl,hw2.alloc hw2.size _⟩
theorem ME (c:UInt8) (w:World) :
  Calls Tryz.prog 98 #[.int .u8 c.toNat] w fun e w'=>e = .returned (.string (ofL (qb c)))/\Below w.heap.size w w':=by
 cases h:good c with
 | true=>exact No c w h
 | false=>exact xW c w h
end QuoteWalk
end Go.Proofs.YtlkjpfiancahiaaGreatDoor
end
section
namespace Go.Proofs
open Go.Shelf
def Tryz.zlays166_ren:Go.Shelf.Ren:=⟨fun | 166=>151 | 240=>177 | 276=>208 | n=>n,fun | 0=>0 | 3=>3 | 4=>4 | 9=>9 | 20=>20 | 37=>153 | 70=>197 | 72=>199 | 75=>202 | 164=>249 | 80=>205 | 5=>5 | n=>n,fun | n=>n⟩
theorem Tryz.zlays166:Go.Proofs.Lays.n166 Tryz.prog Tryz.zlays166_ren:={
 mixed:=by kernel_rfl
 f166:=Tryz.func151.trans (congrArg some (by kernel_rfl))
 f240:=Tryz.func177.trans (congrArg some (by kernel_rfl))
 f276:=Tryz.func208.trans (congrArg some (by kernel_rfl))
 t0:=Tryz.underlying0
 a0:=Tryz.isAgg0
 z0:=Tryz.sizeOf0
 v0:=Tryz.zeroValue0
 t3:=Tryz.underlying3
 a3:=Tryz.isAgg3
 z3:=Tryz.sizeOf3
 v3:=Tryz.zeroValue3
 t4:=Tryz.underlying4
 a4:=Tryz.isAgg4
 z4:=Tryz.sizeOf4
 v4:=Tryz.zeroValue4
 t9:=Tryz.underlying9
 a9:=Tryz.isAgg9
 z9:=Tryz.sizeOf9
 v9:=Tryz.zeroValue9
 t20:=Tryz.underlying20
 a20:=Tryz.isAgg20
 z20:=Tryz.sizeOf20
 v20:=Tryz.zeroValue20
 t37:=Tryz.underlying153
 a37:=Tryz.isAgg153
 z37:=Tryz.sizeOf153
 v37:=Tryz.zeroValue153
 t70:=Tryz.underlying197
 a70:=Tryz.isAgg197
 z70:=Tryz.sizeOf197
 v70:=Tryz.zeroValue197
 t72:=Tryz.underlying199
 a72:=Tryz.isAgg199
 z72:=Tryz.sizeOf199
 v72:=Tryz.zeroValue199
 t75:=Tryz.underlying202
 a75:=Tryz.isAgg202
 z75:=Tryz.sizeOf202
 v75:=Tryz.zeroValue202
 t164:=Tryz.underlying249
 a164:=Tryz.isAgg249
 z164:=Tryz.sizeOf249
 v164:=Tryz.zeroValue249 }
theorem Tryz.zBuilder_Extra_166:Builder.Extra Tryz.prog Tryz.zlays166_ren:={
 sizeBuilder:=by kernel_rfl
 liesBuilder:=by kernel_rfl
 t5:=Tryz.underlying5
 a5:=Tryz.isAgg5
 z5:=Tryz.sizeOf5
 v5:=Tryz.zeroValue5
 infoByte:=by kernel_rfl
 cellsByte:=by kernel_rfl
 sizeByte:=by kernel_rfl
 neB5:=by decide }
def Tryz.zlays167_ren:Go.Shelf.Ren:=⟨fun | 167=>175 | 240=>177 | 276=>208 | n=>n,fun | 0=>0 | 4=>4 | 5=>5 | 9=>9 | 20=>20 | 37=>153 | 70=>197 | 72=>199 | 75=>202 | 164=>249 | 80=>205 | n=>n,fun | n=>n⟩
theorem Tryz.zlays167:Go.Proofs.Lays.n167 Tryz.prog Tryz.zlays167_ren:={
 mixed:=by kernel_rfl
 f167:=Tryz.func175.trans (congrArg some (by kernel_rfl))
 f240:=Tryz.func177.trans (congrArg some (by kernel_rfl))
 f276:=Tryz.func208.trans (congrArg some (by kernel_rfl))
 t0:=Tryz.underlying0
 a0:=Tryz.isAgg0
 z0:=Tryz.sizeOf0
 v0:=Tryz.zeroValue0
 t4:=Tryz.underlying4
 a4:=Tryz.isAgg4
 z4:=Tryz.sizeOf4
 v4:=Tryz.zeroValue4
 t5:=Tryz.underlying5
 a5:=Tryz.isAgg5
 z5:=Tryz.sizeOf5
 v5:=Tryz.zeroValue5
 t9:=Tryz.underlying9
 a9:=Tryz.isAgg9
 z9:=Tryz.sizeOf9
 v9:=Tryz.zeroValue9
 t20:=Tryz.underlying20
 a20:=Tryz.isAgg20
 z20:=Tryz.sizeOf20
 v20:=Tryz.zeroValue20
 t37:=Tryz.underlying153
 a37:=Tryz.isAgg153
 z37:=Tryz.sizeOf153
 v37:=Tryz.zeroValue153
 t70:=Tryz.underlying197
 a70:=Tryz.isAgg197
 z70:=Tryz.sizeOf197
 v70:=Tryz.zeroValue197
 t72:=Tryz.underlying199
 a72:=Tryz.isAgg199
 z72:=Tryz.sizeOf199
 v72:=Tryz.zeroValue199
 t75:=Tryz.underlying202
 a75:=Tryz.isAgg202
 z75:=Tryz.sizeOf202
 v75:=Tryz.zeroValue202
 t164:=Tryz.underlying249
 a164:=Tryz.isAgg249
 z164:=Tryz.sizeOf249
 v164:=Tryz.zeroValue249 }
theorem Tryz.zBuilder_Extra_167:Builder.Extra Tryz.prog Tryz.zlays167_ren:={
 sizeBuilder:=by kernel_rfl
 liesBuilder:=by kernel_rfl
 t5:=Tryz.underlying5
 a5:=Tryz.isAgg5
 z5:=Tryz.sizeOf5
 v5:=Tryz.zeroValue5
 infoByte:=by kernel_rfl
 cellsByte:=by kernel_rfl
 sizeByte:=by kernel_rfl
 neB5:=by decide }
open Go.RowKit in
theorem Tryz.zBuilder_WriteByte (B b:Nat) (bs:List Value) (c:Int) (w:World) (h:Lib.IsBuilder 199 5 B b bs w) (hlen:bs.length+1<=140737488355328) (hBw:B<=w.heap.size) :
  Calls Tryz.prog 175 #[.pointer (some ⟨b,0,none⟩),.int .u8 c] w fun e w'=>e = .returned .nilIface/\(Lib.BuilderAt 199 5 B b (.pointer (some ⟨b,0,none⟩)) (bs++[.int .u8 c]) w'/\Below B w w'):=Any.Builder_WriteByte Tryz.zlays167 Tryz.zBuilder_Extra_167 B b bs c w h hlen hBw
open Go.RowKit in
theorem Tryz.zBuilder_WriteString (B b:Nat) (bs:List Value) (s:ByteArray) (w:World) (h:Lib.IsBuilder 199 5 B b bs w) (hlen:bs.length+s.size<=140737488355328) (hBw:B<=w.heap.size) :
  Calls Tryz.prog 151 #[.pointer (some ⟨b,0,none⟩),.string s] w fun e w'=>e = .returned (.tuple #[.int .i64 s.size,.nilIface])/\(Lib.BuilderAt 199 5 B b (.pointer (some ⟨b,0,none⟩)) (bs++Lib.strCells s) w'/\Below B w w'):=Any.Builder_WriteString Tryz.zlays166 Tryz.zBuilder_Extra_166 B b bs s w h hlen hBw
end Go.Proofs
end
section
namespace Go.Proofs.YtlkjpfiancahiaaGreatDoor
open Go.RowKit
namespace QuoteWalk
open Kit QuotePlain
def pre (s:ByteArray) (k:Nat):Bs:=34 :: mid ((toL s).take k)
theorem y5 (s:ByteArray):pre s 0 = [34]:=by simp[pre,mid]
theorem uq (s:ByteArray) (k:Nat) (h:k<s.size) {c:UInt8} (hc:s[k]=c):pre s (k+1)=pre s k++qb c:=by
 have h':k<(toL s).length:=by rw[Hw];exact h
 have:(toL s)[k]=c:=hc
 rw[pre,pre,List.take_succ_eq_append_getElem h',this,mid,mid,List.flatMap_append]
 simp
theorem zb3 (s:ByteArray) (k:Nat) (h:s.size<=k):pre s k++[34]=qj (toL s):=by
 rw[pre,List.take_of_length_le (by rw[Hw];exact h)];rfl
theorem zjs (c:UInt8):(qb c).length<=4:=by unfold qb;split<;>simp
theorem mid_len (l:Bs):(mid l).length<=4*l.length:=by
 induction l with
 | nil=>simp[mid]
 | cons c l ih =>
  have:=zjs c
  simp only[mid,List.flatMap_cons,List.length_append,List.length_cons]at ih ⊢
  omega
theorem zcL (s:ByteArray) (k:Nat):(pre s k).length<=1+4*k:=by
 have h1:=mid_len ((toL s).take k)
 have h2:((toL s).take k).length<=k:=List.length_take_le _ _
 simp only[pre,List.length_cons];omega
theorem refQuote_walk (s:ByteArray) (w:World) (hs:s.size<=1099511627776) :
  Calls Tryz.prog 52 #[.string s] w fun e w'=>e = .returned (.string (ofL (qj (toL s))))/\Below w.heap.size w w':=by
 go_enter Tryz.func52,Tryz.ntmps52
 go_wp2
 go_loopw [3,4] (fun o i wr=>∃ k:Nat,k<=s.size/\i = .int .i64 k/\o = .string (ofL (pre s k))/\Below w.heap.size w wr) (fun _ i _=>s.size-(intOf i).toNat)
 case atStart=>exact ⟨0,by omega,rfl,by rw[y5];rfl,Below.refl _ _⟩
 case round =>
  obtain ⟨k,hk,rfl,rfl,hB⟩:=hrel
  have hpl:=zcL s k
  have hps:(ofL (pre s k)).size<=1+4*k:=by rw[QL];exact hpl
  by_cases hlt:k<s.size
  ·obtain ⟨c,hc⟩:∃ c,s[k]=c:=⟨_,rfl⟩
   have hsn:=Lib.hid (uq s k hlt hc)
   have hql:=zjs c
   have hqs:(ofL (qb c)).size<=4:=by rw[QL];exact hql
   generalize hp:ofL (pre s k)=p at *
   have hp':=Lib.hid hp
   clear hp
   go_wp2_with fail
   refine (ME c _).mono ?_
   rintro e w1 ⟨rfl,hb1⟩
   generalize hq:ofL (qb c)=q at *
   have hq':=Lib.hid hq
   clear hq
   go_wp2
   go_roundw
   case rel=>exact ⟨k+1,by omega,by go_num,by rw[hsn.out,←ko,hp'.out,hq'.out],hB.trans (hb1.mono hB.size)⟩
   case measure=>simp[intOf];omega
  ·have hfin:=Lib.hid (zb3 s k (by omega))
   generalize hp:ofL (pre s k)=p at *
   have hp':=Lib.hid hp
   clear hp
   go_wp2
   go_ret
   exact ⟨kF (by rw[←hp'.out,←hfin.out,←ko];rfl),hB⟩
def Bld (B:Nat) (l:Bs) (w:World):Prop:=Lib.BuilderAt 199 5 B B (.pointer (some ⟨B,0,none⟩)) (Lib.byteCells l) w
theorem Bld.alloc {B:Nat} {l:Bs} {w:World} (h:Bld B l w) (o:Obj):Bld B l (w.alloc o):=by
 obtain ⟨h1,v,h2,h3,h4⟩:=h
 refine ⟨h1,v,?_,h3.alloc o,h4⟩
 rw[Lib.alloc_old _ _ _ (Array.getElem?_eq_some_iff.1 h2).1];exact h2
theorem Bld.drew {B:Nat} {l:Bs} {w:World} (h:Bld B l w):Bld B l w.drew:=h
theorem N6 (B:Nat) (l:Bs) (c:UInt8) (w:World) (h:Bld B l w) (hl:l.length<140737488355328) (hB:B<=w.heap.size) :
  Calls Tryz.prog 175 #[.pointer (some ⟨B,0,none⟩),.int .u8 (c.toNat:Int)] w fun e w'=>e = .returned .nilIface/\Bld B (l++[c]) w'/\Below B w w':=by
 refine (Tryz.zBuilder_WriteByte B B (Lib.byteCells l) c.toNat w (.inr h) (by rw[Lib.byteCells_length];omega) hB).mono ?_
 rintro e w' ⟨h1,h2,h3⟩
 exact ⟨h1,by rw[Bld,Lib.byteCells_append];exact h2,h3⟩
theorem u6 (w:World) (c:UInt8) :
  Calls Tryz.prog 175 #[.pointer (some ⟨w.heap.size,0,none⟩),.int .u8 (c.toNat:Int)] (w.alloc (.cells #[.pointer none,.slice none 0 0] 199 (0,0))) fun e w'=>e = .returned .nilIface/\Bld w.heap.size [c] w'/\Below w.heap.size w w':=by
 refine (Tryz.zBuilder_WriteByte w.heap.size w.heap.size [] c.toNat _ (Lib.fresh_isBuilder _ _ w) (by decide) (by simp)).mono ?_
 rintro e w' ⟨h1,h2,h3⟩
 exact ⟨h1,h2,((Below.refl _ _).alloc (Nat.le_refl _) _).trans h3⟩
theorem yh (B:Nat) (l:Bs) (x:ByteArray) (w:World) (h:Bld B l w) (hl:l.length+x.size<=140737488355328) (hB:B<=w.heap.size) :
  Calls Tryz.prog 151 #[.pointer (some ⟨B,0,none⟩),.string x] w fun e w'=>e = .returned (.tuple #[.int .i64 x.size,.nilIface])/\Bld B (l++toL x) w'/\Below B w w':=by
 refine (Tryz.zBuilder_WriteString B B (Lib.byteCells l) x w (.inr h) (by rw[Lib.byteCells_length];omega) hB).mono ?_
 rintro e w' ⟨h1,h2,h3⟩
 exact ⟨h1,by rw[Bld,Lib.byteCells_append];exact h2,h3⟩
theorem zcl (B:Nat) (l:Bs) (w:World) (h:Bld B l w) (hB:B<=w.heap.size) :
  Calls Tryz.prog 152 #[.pointer (some ⟨B,0,none⟩)] w fun e w'=>e = .returned (.string (ofL l))/\Below B w w':=
 Tryz.Builder_String_any B B l w (.inr h) hB
theorem zpe (c:UInt8):bits BinOp.and IntKind.u8 (c.toNat:Int) 15=(c.toNat:Int) % 16:=by
 have:=ze5 (p:=fun c=>decide (bits BinOp.and IntKind.u8 (c.toNat:Int) 15=(c.toNat:Int) % 16)) (by decide +kernel) c
 exact of_decide_eq_true this
theorem quote_walk (s:ByteArray) (w:World) (hs:s.size<=1099511627776) :
  Calls Tryz.prog 148 #[.string s] w fun e w'=>e = .returned (.string (ofL (qj (toL s))))/\Below w.heap.size w w':=by
 go_enter Tryz.func148,Tryz.ntmps148
 go_wp2_with fail
 refine (u6 w 34).mono ?_
 rintro e w1 ⟨rfl,hI1,hB1⟩
 go_wp2_with fail
 go_loopw [9] (fun i wr=>∃ k:Nat,k<=s.size/\i = .int .i64 k/\Bld w.heap.size (pre s k) wr/\Below w.heap.size w wr) (fun i _=>s.size-(intOf i).toNat)
 case atStart=>exact ⟨0,by omega,rfl,by rw[y5];exact hI1,hB1⟩
 case round =>
  obtain ⟨k,hk,rfl,hI,hB⟩:=hrel
  clear hI1 hB1
  have hpl:=zcL s k
  by_cases hlt:k<s.size
  ·obtain ⟨c,hc⟩:∃ c,s[k]=c:=⟨_,rfl⟩
   have hsn:=Lib.hid (uq s k hlt hc)
   go_wp2_with fail
   refine (MY c _).mono ?_
   rintro e w' ⟨rfl,rfl⟩
   cases hg:good c with
   | true =>
    have hq:=Lib.hid (show qb c = [c] by rw[qb,if_pos hg])
    clear hg
    go_wp2_with fail
    refine (N6 w.heap.size (pre s k) c _ hI (by omega) hB.size).mono ?_
    rintro e w2 ⟨rfl,hI2,hb2⟩
    go_wp2
    go_roundw
    case rel=>exact ⟨k+1,by omega,by go_num,by rw[hsn.out,hq.out];exact hI2,hB.trans hb2⟩
    case measure=>simp[intOf];omega
   | false =>
    have hq:=Lib.hid (show qb c = [92,120,HV (c.toNat / 16),HV (c.toNat % 16)] by rw[qb,hg];rfl)
    clear hg
    have x1:=zjJ c
    have x2:=zjv c
    have x3:=zpe c
    have hcv:=fun w2:World=>HS (P:=Tryz.prog) w2 [92,120,HV (c.toNat / 16),HV (c.toNat % 16)] 153 5 9 Tryz.underlying153 Tryz.underlying5 Tryz.underlying9 #[.int .u8 92,.int .u8 120,.int .u8 (HV (c.toNat / 16)).toNat,.int .u8 (HV (c.toNat % 16)).toNat] rfl (0,0) w2.heap.size 4 4 rfl rfl
    go_wp2_with fail
    go_still_tail 6,(by kernel_rfl)
    change wpList _ _ _ _ _ wr.drew
    obtain ⟨w2,hw2,hI2,hsz⟩:∃ w2:World,Below w.heap.size w w2/\Bld w.heap.size (pre s k) w2/\w2=wr.drew:=⟨_,hB.drew,hI.drew,rfl⟩
    rw[←hsz]
    clear hsz hI hB
    go_wp2_with fail
    refine (yh w.heap.size (pre s k) (ofL [92,120,HV (c.toNat / 16),HV (c.toNat % 16)]) _ (hI2.alloc _) (by rw[QL];show _+4<=_;omega) (by have:=hw2.size;simp;omega)).mono ?_
    rintro e w3 ⟨rfl,hI3,hb3⟩
    rw[zew]at hI3
    have hB3:=(hw2.alloc hw2.size _).trans hb3
    clear hb3 hcv x1 x2 x3 hI2
    go_wp2
    go_roundw
    case rel=>exact ⟨k+1,by omega,by go_num,by rw[hsn.out,hq.out];exact hI3,hB3⟩
    case measure=>simp[intOf];omega
  ·have hfin:=Lib.hid (zb3 s k (by omega))
   go_wp2_with fail
   refine (N6 w.heap.size (pre s k) 34 _ hI (by omega) hB.size).mono ?_
   rintro e w2 ⟨rfl,hI2,hb2⟩
   go_wp2_with fail
   refine (zcl w.heap.size _ _ hI2 (hB.trans hb2).size).mono ?_
   rintro e w3 ⟨rfl,hb3⟩
   go_wp2
   go_ret
   exact ⟨kF (by rw[hfin.out]),(hB.trans hb2).trans hb3⟩
end QuoteWalk
end Go.Proofs.YtlkjpfiancahiaaGreatDoor
end
namespace Go.Proofs.YtlkjpfiancahiaaGreatDoor.Vcg
section
open Go.RowKit
def phr:List (List UInt8):=[[],[99,97,110,110,111,116,32,99,114,101,97,116,101,32,100,105,114,101,99,116,111,114,121,32,65,58,32,69],[99,97,110,110,111,116,32,114,101,109,111,118,101,32,65,58,32,69],[114,101,102,117,115,105,110,103,32,116,111,32,114,101,109,111,118,101,32,34,46,34,32,111,114,32,34,46,46,34,32,100,105,114,101,99,116,111,114,121,58,32,115,107,105,112,112,105,110,103,32,65],[105,116,32,105,115,32,100,97,110,103,101,114,111,117,115,32,116,111,32,111,112,101,114,97,116,101,32,114,101,99,117,114,115,105,118,101,108,121,32,111,110,32,65],[102,97,105,108,101,100,32,116,111,32,97,99,99,101,115,115,32,65,58,32,69],[65,58,32,104,97,114,100,32,108,105,110,107,32,110,111,116,32,97,108,108,111,119,101,100,32,102,111,114,32,100,105,114,101,99,116,111,114,121],[102,97,105,108,101,100,32,116,111,32,99,114,101,97,116,101,32,104,97,114,100,32,108,105,110,107,32,66,58,32,69],[102,97,105,108,101,100,32,116,111,32,99,114,101,97,116,101,32,115,121,109,98,111,108,105,99,32,108,105,110,107,32,66,58,32,69],[65,32,97,110,100,32,66,32,97,114,101,32,116,104,101,32,115,97,109,101,32,102,105,108,101],[116,97,114,103,101,116,32,65,32,105,115,32,110,111,116,32,97,32,100,105,114,101,99,116,111,114,121],[99,97,110,110,111,116,32,115,116,97,116,32,65,58,32,69],[99,97,110,110,111,116,32,111,118,101,114,119,114,105,116,101,32,110,111,110,45,100,105,114,101,99,116,111,114,121,32,66,32,119,105,116,104,32,100,105,114,101,99,116,111,114,121,32,65],[99,97,110,110,111,116,32,111,118,101,114,119,114,105,116,101,32,100,105,114,101,99,116,111,114,121,32,66,32,119,105,116,104,32,110,111,110,45,100,105,114,101,99,116,111,114,121,32,65],[99,97,110,110,111,116,32,109,111,118,101,32,65,32,116,111,32,97,32,115,117,98,100,105,114,101,99,116,111,114,121,32,111,102,32,105,116,115,101,108,102,44,32,66],[99,97,110,110,111,116,32,109,111,118,101,32,65,32,116,111,32,66,58,32,69],[45,114,32,110,111,116,32,115,112,101,99,105,102,105,101,100,59,32,111,109,105,116,116,105,110,103,32,100,105,114,101,99,116,111,114,121,32,65],[99,97,110,110,111,116,32,99,114,101,97,116,101,32,114,101,103,117,108,97,114,32,102,105,108,101,32,66,58,32,69],[99,97,110,110,111,116,32,99,114,101,97,116,101,32,115,121,109,98,111,108,105,99,32,108,105,110,107,32,66,58,32,69],[99,97,110,110,111,116,32,99,111,112,121,32,97,32,100,105,114,101,99,116,111,114,121,44,32,65,44,32,105,110,116,111,32,105,116,115,101,108,102,44,32,66],[110,111,116,32,119,114,105,116,105,110,103,32,116,104,114,111,117,103,104,32,100,97,110,103,108,105,110,103,32,115,121,109,108,105,110,107,32,66],[101,114,114,111,114,32,119,114,105,116,105,110,103,32,66,58,32,69],[99,97,110,110,111,116,32,99,114,101,97,116,101,32,100,105,114,101,99,116,111,114,121,32,66,58,32,69]]
def zri:List (List UInt8):=[[83,117,99,99,101,115,115],[78,111,32,115,117,99,104,32,102,105,108,101,32,111,114,32,100,105,114,101,99,116,111,114,121],[70,105,108,101,32,101,120,105,115,116,115],[78,111,116,32,97,32,100,105,114,101,99,116,111,114,121],[73,115,32,97,32,100,105,114,101,99,116,111,114,121],[68,105,114,101,99,116,111,114,121,32,110,111,116,32,101,109,112,116,121],[84,111,111,32,109,97,110,121,32,108,101,118,101,108,115,32,111,102,32,115,121,109,98,111,108,105,99,32,108,105,110,107,115],[70,105,108,101,32,110,97,109,101,32,116,111,111,32,108,111,110,103],[78,111,32,115,112,97,99,101,32,108,101,102,116,32,111,110,32,100,101,118,105,99,101],[73,110,118,97,108,105,100,32,97,114,103,117,109,101,110,116],[68,101,118,105,99,101,32,111,114,32,114,101,115,111,117,114,99,101,32,98,117,115,121],[79,112,101,114,97,116,105,111,110,32,110,111,116,32,112,101,114,109,105,116,116,101,100],[77,97,108,102,111,114,109,101,100,32,116,101,120,116],[78,111,116,32,105,110,32,116,104,101,32,115,116,97,115,104]]
def zmV:List Value:=[.string ⟨#[]⟩,.string ⟨#[]⟩,.int .i64 0,.string ⟨#[109,107,100,105,114]⟩,.string ⟨#[112]⟩,.int .i64 1,.string ⟨#[114,109]⟩,.string ⟨#[82,100,102,114]⟩,.int .i64 1,.string ⟨#[108,110]⟩,.string ⟨#[84,102,110,115]⟩,.int .i64 1,.string ⟨#[109,118]⟩,.string ⟨#[84,102,110]⟩,.int .i64 2,.string ⟨#[99,112]⟩,.string ⟨#[80,82,84,102,110,114]⟩,.int .i64 2]
def G2:zn:=fun g=>if g=1 then some (phr.map C.str) else if g=0 then some (zmV.map zy) else if g=2 then some (zri.map C.str) else none
theorem znl:G2 1=some [.str [],.str [99,97,110,110,111,116,32,99,114,101,97,116,101,32,100,105,114,101,99,116,111,114,121,32,65,58,32,69],.str [99,97,110,110,111,116,32,114,101,109,111,118,101,32,65,58,32,69],.str [114,101,102,117,115,105,110,103,32,116,111,32,114,101,109,111,118,101,32,34,46,34,32,111,114,32,34,46,46,34,32,100,105,114,101,99,116,111,114,121,58,32,115,107,105,112,112,105,110,103,32,65],.str [105,116,32,105,115,32,100,97,110,103,101,114,111,117,115,32,116,111,32,111,112,101,114,97,116,101,32,114,101,99,117,114,115,105,118,101,108,121,32,111,110,32,65],.str [102,97,105,108,101,100,32,116,111,32,97,99,99,101,115,115,32,65,58,32,69],.str [65,58,32,104,97,114,100,32,108,105,110,107,32,110,111,116,32,97,108,108,111,119,101,100,32,102,111,114,32,100,105,114,101,99,116,111,114,121],.str [102,97,105,108,101,100,32,116,111,32,99,114,101,97,116,101,32,104,97,114,100,32,108,105,110,107,32,66,58,32,69],.str [102,97,105,108,101,100,32,116,111,32,99,114,101,97,116,101,32,115,121,109,98,111,108,105,99,32,108,105,110,107,32,66,58,32,69],.str [65,32,97,110,100,32,66,32,97,114,101,32,116,104,101,32,115,97,109,101,32,102,105,108,101],.str [116,97,114,103,101,116,32,65,32,105,115,32,110,111,116,32,97,32,100,105,114,101,99,116,111,114,121],.str [99,97,110,110,111,116,32,115,116,97,116,32,65,58,32,69],.str [99,97,110,110,111,116,32,111,118,101,114,119,114,105,116,101,32,110,111,110,45,100,105,114,101,99,116,111,114,121,32,66,32,119,105,116,104,32,100,105,114,101,99,116,111,114,121,32,65],.str [99,97,110,110,111,116,32,111,118,101,114,119,114,105,116,101,32,100,105,114,101,99,116,111,114,121,32,66,32,119,105,116,104,32,110,111,110,45,100,105,114,101,99,116,111,114,121,32,65],.str [99,97,110,110,111,116,32,109,111,118,101,32,65,32,116,111,32,97,32,115,117,98,100,105,114,101,99,116,111,114,121,32,111,102,32,105,116,115,101,108,102,44,32,66],.str [99,97,110,110,111,116,32,109,111,118,101,32,65,32,116,111,32,66,58,32,69],.str [45,114,32,110,111,116,32,115,112,101,99,105,102,105,101,100,59,32,111,109,105,116,116,105,110,103,32,100,105,114,101,99,116,111,114,121,32,65],.str [99,97,110,110,111,116,32,99,114,101,97,116,101,32,114,101,103,117,108,97,114,32,102,105,108,101,32,66,58,32,69],.str [99,97,110,110,111,116,32,99,114,101,97,116,101,32,115,121,109,98,111,108,105,99,32,108,105,110,107,32,66,58,32,69],.str [99,97,110,110,111,116,32,99,111,112,121,32,97,32,100,105,114,101,99,116,111,114,121,44,32,65,44,32,105,110,116,111,32,105,116,115,101,108,102,44,32,66],.str [110,111,116,32,119,114,105,116,105,110,103,32,116,104,114,111,117,103,104,32,100,97,110,103,108,105,110,103,32,115,121,109,108,105,110,107,32,66],.str [101,114,114,111,114,32,119,114,105,116,105,110,103,32,66,58,32,69],.str [99,97,110,110,111,116,32,99,114,101,97,116,101,32,100,105,114,101,99,116,111,114,121,32,66,58,32,69]]:=rfl
theorem ziU:G2 0=some [.str [],.str [],.sc (.int .i64 0),.str [109,107,100,105,114],.str [112],.sc (.int .i64 1),.str [114,109],.str [82,100,102,114],.sc (.int .i64 1),.str [108,110],.str [84,102,110,115],.sc (.int .i64 1),.str [109,118],.str [84,102,110],.sc (.int .i64 2),.str [99,112],.str [80,82,84,102,110,114],.sc (.int .i64 2)]:=rfl
theorem zj5:G2 2=some [.str [83,117,99,99,101,115,115],.str [78,111,32,115,117,99,104,32,102,105,108,101,32,111,114,32,100,105,114,101,99,116,111,114,121],.str [70,105,108,101,32,101,120,105,115,116,115],.str [78,111,116,32,97,32,100,105,114,101,99,116,111,114,121],.str [73,115,32,97,32,100,105,114,101,99,116,111,114,121],.str [68,105,114,101,99,116,111,114,121,32,110,111,116,32,101,109,112,116,121],.str [84,111,111,32,109,97,110,121,32,108,101,118,101,108,115,32,111,102,32,115,121,109,98,111,108,105,99,32,108,105,110,107,115],.str [70,105,108,101,32,110,97,109,101,32,116,111,111,32,108,111,110,103],.str [78,111,32,115,112,97,99,101,32,108,101,102,116,32,111,110,32,100,101,118,105,99,101],.str [73,110,118,97,108,105,100,32,97,114,103,117,109,101,110,116],.str [68,101,118,105,99,101,32,111,114,32,114,101,115,111,117,114,99,101,32,98,117,115,121],.str [79,112,101,114,97,116,105,111,110,32,110,111,116,32,112,101,114,109,105,116,116,101,100],.str [77,97,108,102,111,114,109,101,100,32,116,101,120,116],.str [78,111,116,32,105,110,32,116,104,101,32,115,116,97,115,104]]:=rfl
attribute [push_cast] znl ziU zj5
def Jk (k:Int):List UInt8:=if k=1 then [109,107,100,105,114] else if k=2 then [114,109] else if k=3 then [108,110] else if k=4 then [109,118] else if k=5 then [99,112] else []
def qE (k:Int):List UInt8:=if k=1 then [99,97,110,110,111,116,32,99,114,101,97,116,101,32,100,105,114,101,99,116,111,114,121,32,65,58,32,69] else if k=2 then [99,97,110,110,111,116,32,114,101,109,111,118,101,32,65,58,32,69] else if k=3 then [114,101,102,117,115,105,110,103,32,116,111,32,114,101,109,111,118,101,32,34,46,34,32,111,114,32,34,46,46,34,32,100,105,114,101,99,116,111,114,121,58,32,115,107,105,112,112,105,110,103,32,65] else if k=4 then [105,116,32,105,115,32,100,97,110,103,101,114,111,117,115,32,116,111,32,111,112,101,114,97,116,101,32,114,101,99,117,114,115,105,118,101,108,121,32,111,110,32,65] else if k=5 then [102,97,105,108,101,100,32,116,111,32,97,99,99,101,115,115,32,65,58,32,69] else if k=6 then [65,58,32,104,97,114,100,32,108,105,110,107,32,110,111,116,32,97,108,108,111,119,101,100,32,102,111,114,32,100,105,114,101,99,116,111,114,121] else if k=7 then [102,97,105,108,101,100,32,116,111,32,99,114,101,97,116,101,32,104,97,114,100,32,108,105,110,107,32,66,58,32,69] else if k=8 then [102,97,105,108,101,100,32,116,111,32,99,114,101,97,116,101,32,115,121,109,98,111,108,105,99,32,108,105,110,107,32,66,58,32,69] else if k=9 then [65,32,97,110,100,32,66,32,97,114,101,32,116,104,101,32,115,97,109,101,32,102,105,108,101] else if k=10 then [116,97,114,103,101,116,32,65,32,105,115,32,110,111,116,32,97,32,100,105,114,101,99,116,111,114,121] else if k=11 then [99,97,110,110,111,116,32,115,116,97,116,32,65,58,32,69] else if k=12 then [99,97,110,110,111,116,32,111,118,101,114,119,114,105,116,101,32,110,111,110,45,100,105,114,101,99,116,111,114,121,32,66,32,119,105,116,104,32,100,105,114,101,99,116,111,114,121,32,65] else if k=13 then [99,97,110,110,111,116,32,111,118,101,114,119,114,105,116,101,32,100,105,114,101,99,116,111,114,121,32,66,32,119,105,116,104,32,110,111,110,45,100,105,114,101,99,116,111,114,121,32,65] else if k=14 then [99,97,110,110,111,116,32,109,111,118,101,32,65,32,116,111,32,97,32,115,117,98,100,105,114,101,99,116,111,114,121,32,111,102,32,105,116,115,101,108,102,44,32,66] else if k=15 then [99,97,110,110,111,116,32,109,111,118,101,32,65,32,116,111,32,66,58,32,69] else if k=16 then [45,114,32,110,111,116,32,115,112,101,99,105,102,105,101,100,59,32,111,109,105,116,116,105,110,103,32,100,105,114,101,99,116,111,114,121,32,65] else if k=17 then [99,97,110,110,111,116,32,99,114,101,97,116,101,32,114,101,103,117,108,97,114,32,102,105,108,101,32,66,58,32,69] else if k=18 then [99,97,110,110,111,116,32,99,114,101,97,116,101,32,115,121,109,98,111,108,105,99,32,108,105,110,107,32,66,58,32,69] else if k=19 then [99,97,110,110,111,116,32,99,111,112,121,32,97,32,100,105,114,101,99,116,111,114,121,44,32,65,44,32,105,110,116,111,32,105,116,115,101,108,102,44,32,66] else if k=20 then [110,111,116,32,119,114,105,116,105,110,103,32,116,104,114,111,117,103,104,32,100,97,110,103,108,105,110,103,32,115,121,109,108,105,110,107,32,66] else if k=21 then [101,114,114,111,114,32,119,114,105,116,105,110,103,32,66,58,32,69] else if k=22 then [99,97,110,110,111,116,32,99,114,101,97,116,101,32,100,105,114,101,99,116,111,114,121,32,66,58,32,69] else []
def M8 (k:Int):List UInt8:=if k=0 then [83,117,99,99,101,115,115] else if k=1 then [78,111,32,115,117,99,104,32,102,105,108,101,32,111,114,32,100,105,114,101,99,116,111,114,121] else if k=2 then [70,105,108,101,32,101,120,105,115,116,115] else if k=3 then [78,111,116,32,97,32,100,105,114,101,99,116,111,114,121] else if k=4 then [73,115,32,97,32,100,105,114,101,99,116,111,114,121] else if k=5 then [68,105,114,101,99,116,111,114,121,32,110,111,116,32,101,109,112,116,121] else if k=6 then [84,111,111,32,109,97,110,121,32,108,101,118,101,108,115,32,111,102,32,115,121,109,98,111,108,105,99,32,108,105,110,107,115] else if k=7 then [70,105,108,101,32,110,97,109,101,32,116,111,111,32,108,111,110,103] else if k=8 then [78,111,32,115,112,97,99,101,32,108,101,102,116,32,111,110,32,100,101,118,105,99,101] else if k=9 then [73,110,118,97,108,105,100,32,97,114,103,117,109,101,110,116] else if k=10 then [68,101,118,105,99,101,32,111,114,32,114,101,115,111,117,114,99,101,32,98,117,115,121] else if k=11 then [79,112,101,114,97,116,105,111,110,32,110,111,116,32,112,101,114,109,105,116,116,101,100] else if k=12 then [77,97,108,102,111,114,109,101,100,32,116,101,120,116] else if k=13 then [78,111,116,32,105,110,32,116,104,101,32,115,116,97,115,104] else [85,110,107,110,111,119,110,32,101,114,114,111,114]
theorem My (k:Int):Fun Tryz.prog G2 104 [.sc (.int .i64 k)] (.str (Jk k)) 0:=by
 by_cases h1:1<=k
 ·by_cases h2:k<=5
  ·have hc:k=1∨k=2∨k=3∨k=4∨k=5:=by omega
   clear h1 h2
   rcases hc with rfl | rfl | rfl | rfl | rfl
   all_goals
    refine fon Tryz.func104 ?_;dsimp only[Tryz.f104]
    push_cast -dsimp
    exact ⟨[],rfl,rfl,by simp only[Jk];push_cast -dsimp [zb,za,CLe,zd]<;>rfl⟩
  ·have n1:¬k=1:=(by omega);have n2:¬k=2:=(by omega);have n3:¬k=3:=(by omega);have n4:¬k=4:=(by omega);have n5:¬k=5:=(by omega)
   have f1:¬k<1:=(by omega);have f2:6<=k:=(by omega);have f3:5<k:=(by omega)
   refine fon Tryz.func104 ?_;dsimp only[Tryz.f104]
   push_cast -dsimp [f1,f2,f3,n1,n2,n3,n4,n5]
   exact ⟨[],rfl,rfl,by push_cast -dsimp [zb,za,CLe,zd]<;>simp[Jk,n1,n2,n3,n4,n5]⟩
 ·have n1:¬k=1:=(by omega);have n2:¬k=2:=(by omega);have n3:¬k=3:=(by omega);have n4:¬k=4:=(by omega);have n5:¬k=5:=(by omega)
  have f1:k<1:=by omega
  refine fon Tryz.func104 ?_;dsimp only[Tryz.f104]
  push_cast -dsimp [f1,n1,n2,n3,n4,n5]
  exact ⟨[],rfl,rfl,by push_cast -dsimp [zb,za,CLe,zd]<;>simp[Jk,n1,n2,n3,n4,n5]⟩
theorem Nh (k:Int):Fun Tryz.prog G0 26 [.sc (.int .i64 k)] (.str (Jk k)) 0:=by
 by_cases h1:1<=k
 ·by_cases h2:k<=5
  ·have hc:k=1∨k=2∨k=3∨k=4∨k=5:=by omega
   clear h1 h2
   rcases hc with rfl | rfl | rfl | rfl | rfl
   all_goals
    refine fon Tryz.func26 ?_;dsimp only[Tryz.f26]
    push_cast -dsimp
    exact ⟨[],rfl,rfl,by simp only[Jk];push_cast -dsimp [zb,za,CLe,zd]<;>rfl⟩
  ·have n1:¬k=1:=(by omega);have n2:¬k=2:=(by omega);have n3:¬k=3:=(by omega);have n4:¬k=4:=(by omega);have n5:¬k=5:=(by omega)
   have f1:¬k<1:=(by omega);have f2:6<=k:=(by omega);have f3:5<k:=(by omega)
   refine fon Tryz.func26 ?_;dsimp only[Tryz.f26]
   push_cast -dsimp [f1,f2,f3,n1,n2,n3,n4,n5]
   exact ⟨[],rfl,rfl,by push_cast -dsimp [zb,za,CLe,zd]<;>simp[Jk,n1,n2,n3,n4,n5]⟩
 ·have n1:¬k=1:=(by omega);have n2:¬k=2:=(by omega);have n3:¬k=3:=(by omega);have n4:¬k=4:=(by omega);have n5:¬k=5:=(by omega)
  have f1:k<1:=by omega
  refine fon Tryz.func26 ?_;dsimp only[Tryz.f26]
  push_cast -dsimp [f1,n1,n2,n3,n4,n5]
  exact ⟨[],rfl,rfl,by push_cast -dsimp [zb,za,CLe,zd]<;>simp[Jk,n1,n2,n3,n4,n5]⟩
theorem zaA (k:Int):Fun Tryz.prog G2 105 [.sc (.int .i64 k)] (.str (qE k)) 0:=by
 by_cases h1:0<=k
 ·by_cases h2:k<=22
  ·have hc:k=0∨k=1∨k=2∨k=3∨k=4∨k=5∨k=6∨k=7∨k=8∨k=9∨k=10∨k=11∨k=12∨k=13∨k=14∨k=15∨k=16∨k=17∨k=18∨k=19∨k=20∨k=21∨k=22:=by omega
   clear h1 h2
   rcases hc with rfl | rfl | rfl | rfl | rfl | rfl | rfl | rfl | rfl | rfl | rfl | rfl | rfl | rfl | rfl | rfl | rfl | rfl | rfl | rfl | rfl | rfl | rfl
   all_goals
    refine fon Tryz.func105 ?_;dsimp only[Tryz.f105]
    push_cast -dsimp
    exact ⟨[],rfl,rfl,by simp only[qE];push_cast -dsimp [zb,za,CLe,zd]<;>rfl⟩
  ·have n1:¬k=1:=(by omega);have n2:¬k=2:=(by omega);have n3:¬k=3:=(by omega);have n4:¬k=4:=(by omega);have n5:¬k=5:=(by omega);have n6:¬k=6:=(by omega);have n7:¬k=7:=(by omega);have n8:¬k=8:=(by omega);have n9:¬k=9:=(by omega);have n10:¬k=10:=(by omega);have n11:¬k=11:=(by omega);have n12:¬k=12:=(by omega);have n13:¬k=13:=(by omega);have n14:¬k=14:=(by omega);have n15:¬k=15:=(by omega);have n16:¬k=16:=(by omega);have n17:¬k=17:=(by omega);have n18:¬k=18:=(by omega);have n19:¬k=19:=(by omega);have n20:¬k=20:=(by omega);have n21:¬k=21:=(by omega);have n22:¬k=22:=(by omega)
   have f1:¬k<0:=(by omega);have f2:23<=k:=(by omega);have f3:22<k:=(by omega)
   refine fon Tryz.func105 ?_;dsimp only[Tryz.f105]
   push_cast -dsimp [f1,f2,f3,n1,n2,n3,n4,n5,n6,n7,n8,n9,n10,n11,n12,n13,n14,n15,n16,n17,n18,n19,n20,n21,n22]
   exact ⟨[],rfl,rfl,by push_cast -dsimp [zb,za,CLe,zd]<;>simp[qE,n1,n2,n3,n4,n5,n6,n7,n8,n9,n10,n11,n12,n13,n14,n15,n16,n17,n18,n19,n20,n21,n22]⟩
 ·have n1:¬k=1:=(by omega);have n2:¬k=2:=(by omega);have n3:¬k=3:=(by omega);have n4:¬k=4:=(by omega);have n5:¬k=5:=(by omega);have n6:¬k=6:=(by omega);have n7:¬k=7:=(by omega);have n8:¬k=8:=(by omega);have n9:¬k=9:=(by omega);have n10:¬k=10:=(by omega);have n11:¬k=11:=(by omega);have n12:¬k=12:=(by omega);have n13:¬k=13:=(by omega);have n14:¬k=14:=(by omega);have n15:¬k=15:=(by omega);have n16:¬k=16:=(by omega);have n17:¬k=17:=(by omega);have n18:¬k=18:=(by omega);have n19:¬k=19:=(by omega);have n20:¬k=20:=(by omega);have n21:¬k=21:=(by omega);have n22:¬k=22:=(by omega)
  have f1:k<0:=by omega
  refine fon Tryz.func105 ?_;dsimp only[Tryz.f105]
  push_cast -dsimp [f1,n1,n2,n3,n4,n5,n6,n7,n8,n9,n10,n11,n12,n13,n14,n15,n16,n17,n18,n19,n20,n21,n22]
  exact ⟨[],rfl,rfl,by push_cast -dsimp [zb,za,CLe,zd]<;>simp[qE,n1,n2,n3,n4,n5,n6,n7,n8,n9,n10,n11,n12,n13,n14,n15,n16,n17,n18,n19,n20,n21,n22]⟩
theorem yI (k:Int):Fun Tryz.prog G2 149 [.sc (.int .i64 k)] (.str (M8 k)) 0:=by
 by_cases h1:0<=k
 ·by_cases h2:k<=13
  ·have hc:k=0∨k=1∨k=2∨k=3∨k=4∨k=5∨k=6∨k=7∨k=8∨k=9∨k=10∨k=11∨k=12∨k=13:=by omega
   clear h1 h2
   rcases hc with rfl | rfl | rfl | rfl | rfl | rfl | rfl | rfl | rfl | rfl | rfl | rfl | rfl | rfl
   all_goals
    refine fon Tryz.func149 ?_;dsimp only[Tryz.f149]
    push_cast -dsimp
    exact ⟨[],rfl,rfl,by simp only[M8];push_cast -dsimp [zb,za,CLe,zd]<;>rfl⟩
  ·have n0:¬k=0:=(by omega);have n1:¬k=1:=(by omega);have n2:¬k=2:=(by omega);have n3:¬k=3:=(by omega);have n4:¬k=4:=(by omega);have n5:¬k=5:=(by omega);have n6:¬k=6:=(by omega);have n7:¬k=7:=(by omega);have n8:¬k=8:=(by omega);have n9:¬k=9:=(by omega);have n10:¬k=10:=(by omega);have n11:¬k=11:=(by omega);have n12:¬k=12:=(by omega);have n13:¬k=13:=(by omega)
   have f1:¬k<0:=(by omega);have f2:14<=k:=(by omega);have f3:13<k:=(by omega)
   refine fon Tryz.func149 ?_;dsimp only[Tryz.f149]
   push_cast -dsimp [f1,f2,f3,n0,n1,n2,n3,n4,n5,n6,n7,n8,n9,n10,n11,n12,n13]
   exact ⟨[],rfl,rfl,by push_cast -dsimp [zb,za,CLe,zd]<;>simp[M8,n0,n1,n2,n3,n4,n5,n6,n7,n8,n9,n10,n11,n12,n13]⟩
 ·have n0:¬k=0:=(by omega);have n1:¬k=1:=(by omega);have n2:¬k=2:=(by omega);have n3:¬k=3:=(by omega);have n4:¬k=4:=(by omega);have n5:¬k=5:=(by omega);have n6:¬k=6:=(by omega);have n7:¬k=7:=(by omega);have n8:¬k=8:=(by omega);have n9:¬k=9:=(by omega);have n10:¬k=10:=(by omega);have n11:¬k=11:=(by omega);have n12:¬k=12:=(by omega);have n13:¬k=13:=(by omega)
  have f1:k<0:=by omega
  refine fon Tryz.func149 ?_;dsimp only[Tryz.f149]
  push_cast -dsimp [f1,n0,n1,n2,n3,n4,n5,n6,n7,n8,n9,n10,n11,n12,n13]
  exact ⟨[],rfl,rfl,by push_cast -dsimp [zb,za,CLe,zd]<;>simp[M8,n0,n1,n2,n3,n4,n5,n6,n7,n8,n9,n10,n11,n12,n13]⟩
open QuotePlain in
theorem Mt (l:List UInt8) (hl:l.length<=1000000):Fun Tryz.prog G0 148 [.str l] (.str (qj l)) 0:=by
 refine Fun.wrap (by kernel_rfl) fun R vs h=>?_
 obtain ⟨v1,us1,rfl,h1,h⟩:=ze.1 h
 rw[zi]at h
 subst h
 rw[zM]at h1
 subst h1
 refine (QuoteWalk.quote_walk ⟨l.toArray⟩ R.w (by simp[ByteArray.size];omega)).mono ?_
 rintro e w' ⟨rfl,hb⟩
 exact ⟨_,rfl,hb,fun R' _=>zM.2 (by simp[Kit.ofL,Kit.toL])⟩
open QuotePlain in
theorem XK (l:List UInt8) (hl:l.length<=1000000):Fun Tryz.prog G0 52 [.str l] (.str (qj l)) 0:=by
 refine Fun.wrap (by kernel_rfl) fun R vs h=>?_
 obtain ⟨v1,us1,rfl,h1,h⟩:=ze.1 h
 rw[zi]at h
 subst h
 rw[zM]at h1
 subst h1
 refine (QuoteWalk.refQuote_walk ⟨l.toArray⟩ R.w (by simp[ByteArray.size];omega)).mono ?_
 rintro e w' ⟨rfl,hb⟩
 exact ⟨_,rfl,hb,fun R' _=>zM.2 (by simp[Kit.ofL,Kit.toL])⟩
end
section
open Go.RowKit
theorem Fun.res {P:Program} {G:zn} {f:FuncId} {args:List C} {r r':C} {n:Nat} (h:Fun P G f args r n) (e:r=r'):Fun P G f args r' n:=e▸h
theorem ND.glob0 {P:Program} {G':zn} {f:FuncId} {args:List C} {bx bx':List (List C)} {q:Nat} {r:C} {n:Nat} (h:ND P G0 f args bx q r bx' n):ND P G' f args bx q r bx' n:=
 ⟨h.1,fun R L vs hg=>h.2 R L vs fun g cs e=>by cases e⟩
theorem MR.glob0 {P:Program} {G':zn} {f:FuncId} {first cap:List C} {bx items:List (List C)} (h:MR P G0 f first cap bx items):MR P G' f first cap bx items:=
 ⟨h.1,fun l st J R L us vs hg=>h.2 l st J R L us vs fun g cs e=>by cases e⟩
def Qo (c:UInt8):List UInt8->List (List UInt8)
 | []=>[[]]
 | b :: l=>if b=c then [] :: Qo c l else match Qo c l with
  | []=>[[b]]
  | x :: r=>(b :: x) :: r
theorem VR (c:UInt8):∀ l:List UInt8,Lib.indexByte l c<0->Qo c l = [l]
 | [],_=>rfl
 | b :: l,h=>by
  unfold Lib.indexByte at h
  by_cases hb:b=c
  ·subst hb;simp at h
  ·have hb':(b==c)=false:=by simpa using hb
   rw[hb']at h
   simp only[Bool.false_eq_true,if_false]at h
   have hl:Lib.indexByte l c<0:=by
    split at h
    ·rename_i g;have:=beq_iff_eq.1 g;omega
    ·omega
   unfold Qo
   rw[if_neg hb,VR c l hl]
theorem VJ (c:UInt8):∀ l:List UInt8,-1<=Lib.indexByte l c
 | []=>Int.le_refl _
 | b :: l=>by
  have:=VJ c l
  unfold Lib.indexByte
  split
  ·decide
  ·split
   ·decide
   ·omega
theorem G3 (c:UInt8):∀ (l:List UInt8) (i:Nat),Lib.indexByte l c=(i:Int)->i<l.length/\Qo c l=l.take i :: Qo c (l.drop (i+1))
 | [],i,h=>by
  have h:(-1:Int)=(i:Int):=h
  omega
 | b :: l,i,h=>by
  unfold Lib.indexByte at h
  by_cases hb:b=c
  ·subst hb
   simp at h
   obtain rfl:i=0:=by omega
   refine ⟨by simp,?_⟩
   conv=>lhs;unfold Qo
   simp
  ·have hb':(b==c)=false:=by simpa using hb
   rw[hb']at h
   simp only[Bool.false_eq_true,if_false]at h
   split at h
   ·omega
   ·rename_i g
    have g':Lib.indexByte l c≠-1:=by simpa using g
    have hg:=VJ c l
    obtain ⟨j,rfl⟩:∃ j,i=j+1:=⟨i-1,by omega⟩
    have hj:Lib.indexByte l c=(j:Int):=by omega
    obtain ⟨h1,h2⟩:=G3 c l j hj
    refine ⟨by simp;omega,?_⟩
    conv=>lhs;unfold Qo
    rw[if_neg hb,h2]
    simp
theorem yY (c:UInt8) (l:List UInt8):(Qo c l).length<=l.length+1:=by
 induction l with
 | nil=>simp[Qo]
 | cons b l ih =>
  unfold Qo
  split
  ·simp;omega
  ·split
   ·simp
   ·rename_i x r h
    rw[h]at ih
    simp at ih ⊢;omega
theorem uL (c:UInt8) (l:List UInt8):Fun Tryz.prog G0 170 [.str l,.str [c]] (.sc (.int .i64 (Lib.indexByte l c))) 0:=by
 refine Fun.wrap (by kernel_rfl) fun R vs h=>?_
 obtain ⟨v1,us1,rfl,h1,h⟩:=ze.1 h
 obtain ⟨v2,us2,rfl,h2,h⟩:=ze.1 h
 rw[zi]at h
 subst h
 rw[zM]at h1 h2
 subst h1 h2
 refine (Tryz.strings_Index_one ⟨l.toArray⟩ c R.w).mono ?_
 rintro e w' ⟨rfl,rfl⟩
 exact ⟨_,rfl,Below.refl _ _,fun R' _=>zl.2 (by simp)⟩
theorem NM (c:UInt8) (s:List UInt8) (hs:s.length<=1000000):MR Tryz.prog G0 168 [] [.ptr 1 0,.ptr 0 0,.ptr 2 0] [[.str s],[.str [c]],[.sc (.int .i64 0)]] (zQ (Qo c s)):=by
 refine foI (fun _=>[]) Tryz.func168 ?_;dsimp only[Tryz.f168]
 intro l sf
 push_cast -dsimp
 refine loop (fun x:List UInt8×Nat=>⟨[(0,.sc (.func (.yield l) #[] #[])),(1,.ptr 1 0),(2,.ptr 0 0),(3,.ptr 2 0)],[[.str x.1],[.str [c]],[.sc (.int .i64 0)]],0,x.2⟩)
  (fun x=>x.1.length<=1000000/\(∃ done,Qo c s=done++Qo c x.1/\done.length=x.2)/\∀ j,j<x.2->sf j=false) (fun x=>x.1.length) (s,0) ⟨hs,⟨[],rfl,rfl⟩,fun j hj=>by omega⟩ ?_ ?_
 ·refine Jc.mk [] rfl rfl (Nat.zero_le _) rfl ?_ ?_<;>push_cast -dsimp [zb,za,CLe,zd]<;>omega
 ·rintro ⟨r,k⟩ hx
  simp only at hx ⊢
  have hr:=hx.1
  have hsf:=hx.2.2
  obtain ⟨done,hd,hdl⟩:=hx.2.1
  clear hx
  push_cast -dsimp
  refine call (uL c r) ?_
  push_cast -dsimp
  by_cases hi:Lib.indexByte r c<0
  ·push_cast -dsimp [hi]
   have hk:(zQ (Qo c s))[k]?=some [.str r]:=by
    rw[hd,VR c r hi];simp[←hdl]
   rw[hk]
   push_cast -dsimp
   refine ⟨by push_cast -dsimp [zb,za,CLe,zd],hsf,?_⟩
   cases hk2:sf k with
   | true=>exact .inr ⟨Nat.succ_pos k,hk2⟩
   | false =>
    refine .inl ⟨?_,fun j (hj:j<k+1)=>?_⟩
    ·rw[hd,VR c r hi];simp[hdl]
    ·rcases Nat.lt_or_ge j k with g | g
     ·exact hsf j g
     ·rw[show j=k by omega];exact hk2
  ·have hg:=VJ c r
   obtain ⟨i,hii⟩:∃ i:Nat,Lib.indexByte r c=(i:Int):=⟨(Lib.indexByte r c).toNat,by omega⟩
   obtain ⟨hir,hsp⟩:=G3 c r i hii
   have hk:(zQ (Qo c s))[k]?=some [.str (r.take i)]:=by
    rw[hd,hsp];simp[←hdl]
   rw[hii]at hi ⊢
   push_cast -dsimp [hi]
   rw[hk]
   push_cast -dsimp
   refine ⟨by omega,by omega,by push_cast -dsimp [zb,za,CLe,zd],hsf,br (fun hk2=>?_) (fun hk2=>?_)⟩
   ·push_cast -dsimp
    exact .inr ⟨Nat.succ_pos k,hk2⟩
   ·push_cast -dsimp
    refine ⟨by omega,by omega,(r.drop (i+1),k+1),⟨by simp;omega,⟨done++[r.take i],by rw[hd,hsp];simp,by simp[hdl]⟩,fun j (hj:j<k+1)=>?_⟩,by simp;omega,Jc.mk [] rfl rfl (Nat.zero_le _) rfl ?_ ?_⟩
    ·rcases Nat.lt_or_ge j k with g | g
     ·exact hsf j g
     ·rw[show j=k by omega];exact hk2
    ·push_cast -dsimp [zb,za,CLe,zd]
    ·push_cast -dsimp [zb,za,CLe,zd]
theorem Hi (c:UInt8) (s:List UInt8):ND Tryz.prog G0 146 [.str s,.str [c],.sc (.int .i64 0)] [] 0 (.clo (.func 168) [] [.ptr 1 0,.ptr 0 0,.ptr 2 0]) [[.str s],[.str [c]],[.sc (.int .i64 0)]] 0:=by
 refine foB (fun _=>[]) Tryz.func146 ?_;dsimp only[Tryz.f146]
 push_cast -dsimp
 exact ⟨[],rfl,rfl,by push_cast -dsimp [zb,za,CLe,zd],by push_cast -dsimp [zb,za,CLe,zd]⟩
theorem Gf (c:UInt8) (s:List UInt8):ND Tryz.prog G0 102 [.str s,.str [c]] [] 0 (.clo (.func 168) [] [.ptr 1 0,.ptr 0 0,.ptr 2 0]) [[.str s],[.str [c]],[.sc (.int .i64 0)]] 0:=by
 refine foB (fun _=>[]) Tryz.func102 ?_;dsimp only[Tryz.f102]
 push_cast -dsimp
 refine Qj [] [] (Hi c s) rfl (by simp) (by simp) (fun i hi=>by cases hi) (by push_cast -dsimp) rfl ?_
 push_cast -dsimp
 exact ⟨[],rfl,rfl,by push_cast -dsimp [zb,za,CLe,zd],by push_cast -dsimp [zb,za,CLe,zd]⟩
end
section
open CA CB
open Go.RowKit QuotePlain
def YQ (l:List UInt8):List UInt8:=Lib.trimRightS l [58,44]
theorem zdM (l:List UInt8):(YQ l).length<=l.length:=by
 unfold YQ Lib.trimRightS
 rw[List.length_reverse]
 have:=(List.dropWhile_sublist (([58,44]:List UInt8).contains ·) (l:=l.reverse)).length_le
 rw[List.length_reverse]at this
 exact this
theorem zhK (l:List UInt8) (h0:l≠[]) (hl:l.length<=1000000):Fun Tryz.prog G0 147 [.str l,.str [58,44]] (.str (YQ l)) 0:=by
 refine Fun.wrap (by kernel_rfl) fun R vs h=>?_
 obtain ⟨v1,us1,rfl,h1,h⟩:=ze.1 h
 obtain ⟨v2,us2,rfl,h2,h⟩:=ze.1 h
 rw[zi]at h
 subst h
 rw[zM]at h1 h2
 subst h1 h2
 have hpos:=List.length_pos_iff.2 h0
 refine (Any.strings_TrimRight_set Tryz.lays162 U6 (by kernel_rfl) ⟨l.toArray⟩ ⟨#[58,44]⟩ R.w (by decide) (by simpa [ByteArray.size] using hpos) (by simp[ByteArray.size];omega) (by decide) (fun j b hb=>?_)).mono ?_
 ·match j,hb with
  | 0,hb=>cases hb;decide
  | 1,hb=>cases hb;decide
  | j+2,hb=>simp at hb
 ·rintro e w' ⟨rfl,rfl⟩
  exact ⟨_,rfl,((Below.refl _ _).alloc (Nat.le_refl _) _).alloc (by simp) _,fun R' _=>zM.2 (by simp[YQ])⟩
def QW (w qa qb m:List UInt8):List UInt8:=
 if YQ w = [65] then qa++w.drop (YQ w).length else if YQ w = [66] then qb++w.drop (YQ w).length else if YQ w = [69] then m++w.drop (YQ w).length else w
theorem XL (l:List UInt8):(qj l).length<=4*l.length+2:=by
 have:=QuoteWalk.mid_len l
 simp only[qj,List.length_cons,List.length_append,List.length_nil]
 omega
theorem vx (e:Int):(M8 e).length<=100:=by
 have key:∀ (c:Prop) [Decidable c] (x y:List UInt8),x.length<=100->y.length<=100->(if c then x else y).length<=100:=fun c _ x y hx hy=>by
  by_cases h:c
  ·rw[if_pos h];exact hx
  ·rw[if_neg h];exact hy
 unfold M8
 repeat' (first | decide | refine key _ _ _ (by decide) ?_)
theorem zbQ (w a b:List UInt8) (e:Int) (ha:a.length<=1000) (hb:b.length<=1000):(QW w (qj a) (qj b) (M8 e)).length<=w.length+5000:=by
 have h1:=XL a
 have h2:=XL b
 have h3:=vx e
 unfold QW
 repeat' split
 all_goals (try simp only[List.length_append,List.length_drop]);omega
theorem ziL (w a b:List UInt8) (e:Int) (h0:w≠[]) (hw:w.length<=1000) (ha:a.length<=1000) (hb:b.length<=1000):Fun Tryz.prog G2 106 [.str w,.str a,.str b,.sc (.int .i64 e)] (.str (QW w (qj a) (qj b) (M8 e))) 0:=by
 have h1:=(zhK w h0 (by omega)).glob0 (G':=G2)
 have h2:=(Mt a (by omega)).glob0 (G':=G2)
 have h3:=(Mt b (by omega)).glob0 (G':=G2)
 have h4:=yI e
 have hl:=zdM w
 have l1:=XL a
 have l2:=XL b
 have l3:=vx e
 by_cases hA:YQ w = [65]
 ·refine fon Tryz.func106 ?_;dsimp only[Tryz.f106]
  push_cast -dsimp
  refine cl (h1) ?_;push_cast -dsimp
  repeat refine an ?_
  push_cast -dsimp [hA]
  refine cl (h2) ?_;push_cast -dsimp
  repeat refine an ?_
  exact ⟨[],rfl,rfl,by push_cast -dsimp [zb,za,CLe,zd]<;>simp[QW,hA]⟩
 ·by_cases hB:YQ w = [66]
  ·have hA':¬([66]:List UInt8) = [65]:=by decide
   refine fon Tryz.func106 ?_;dsimp only[Tryz.f106]
   push_cast -dsimp
   refine cl (h1) ?_;push_cast -dsimp
   repeat refine an ?_
   push_cast -dsimp [hB,hA']
   refine cl (h3) ?_;push_cast -dsimp
   repeat refine an ?_
   exact ⟨[],rfl,rfl,by push_cast -dsimp [zb,za,CLe,zd]<;>simp[QW,hB]⟩
  ·by_cases hE:YQ w = [69]
   ·have hA':¬([69]:List UInt8) = [65]:=by decide
    have hB':¬([69]:List UInt8) = [66]:=by decide
    refine fon Tryz.func106 ?_;dsimp only[Tryz.f106]
    push_cast -dsimp
    refine cl (h1) ?_;push_cast -dsimp
    repeat refine an ?_
    push_cast -dsimp [hE,hA',hB']
    refine cl (h4) ?_;push_cast -dsimp
    repeat refine an ?_
    exact ⟨[],rfl,rfl,by push_cast -dsimp [zb,za,CLe,zd]<;>simp[QW,hE]⟩
   ·refine fon Tryz.func106 ?_;dsimp only[Tryz.f106]
    push_cast -dsimp
    refine cl (h1) ?_;push_cast -dsimp
    repeat refine an ?_
    push_cast -dsimp [hA,hB,hE]
    exact ⟨[],rfl,rfl,by push_cast -dsimp [zb,za,CLe,zd]<;>simp[QW,hA,hB,hE]⟩
theorem zh9 (xs:List (List UInt8)) (hx:xs.length<=1000001) (hl:(Lib.join xs [58,32]).length<=100000000):Fun Tryz.prog G0 107 [.sl 1 (zQ xs)] (.str (Lib.join xs [58,32])) 0:=by
 refine fon Tryz.func107 ?_;dsimp only[Tryz.f107]
 push_cast -dsimp
 refine cl (Vq xs [58,32] hx hl) ?_;push_cast -dsimp
 exact dn
end
section
open CA CB
open Go.RowKit QuotePlain
abbrev Atm:=Nat ⊕ UInt8
def zp5 (w:List UInt8):List Atm:=
 if YQ w = [65] then .inl 0 :: (w.drop (YQ w).length).map .inr else if YQ w = [66] then .inl 1 :: (w.drop (YQ w).length).map .inr else if YQ w = [69] then .inl 2 :: (w.drop (YQ w).length).map .inr else w.map .inr
def vA (qa qb m:List UInt8):Atm->List UInt8
 | .inl 0=>qa
 | .inl 1=>qb
 | .inl _=>m
 | .inr b=>[b]
def flA (qa qb m:List UInt8):List Atm->List UInt8
 | []=>[]
 | [a]=>vA qa qb m a
 | a :: b :: r=>vA qa qb m a++flA qa qb m (b :: r)
theorem YX (qa qb m:List UInt8):∀ l:List Atm,flA qa qb m l=l.flatMap (vA qa qb m)
 | []=>rfl
 | [a]=>by simp[flA]
 | a :: b :: r=>by rw[flA,YX qa qb m (b :: r)];rfl
def zcV (k:Int):List Atm:=List.intercalate [.inr 32] ((Qo 32 (qE k)).map zp5)
def zpE (k:Int) (qa qb m:List UInt8):List UInt8:=flA qa qb m (zcV k)
theorem zhJ (qa qb m l:List UInt8):flA qa qb m (l.map .inr)=l:=by
 rw[YX]
 induction l with
 | nil=>rfl
 | cons b r ih=>exact congrArg (b :: ·) ih
theorem k9 (qa qb m:List UInt8) (a:Atm) (l:List Atm):flA qa qb m (a :: l)=vA qa qb m a++flA qa qb m l:=by rw[YX,YX];rfl
theorem zge (w qa qb m:List UInt8):QW w qa qb m=flA qa qb m (zp5 w):=by
 have h:=fun l=>zhJ qa qb m l
 unfold QW zp5
 split
 ·rw[k9,h];rfl
 ·split
  ·rw[k9,h];rfl
  ·split
   ·rw[k9,h];rfl
   ·rw[h]
theorem zdt (qa qb m:List UInt8) (a b:List Atm):flA qa qb m (a++b)=flA qa qb m a++flA qa qb m b:=by rw[YX,YX,YX];exact List.flatMap_append
theorem vd (qa qb m:List UInt8):∀ ws:List (List Atm),flA qa qb m (List.intercalate [.inr 32] ws)=List.intercalate [32] (ws.map (flA qa qb m))
 | []=>rfl
 | [w]=>by simp[List.intercalate,List.intersperse]
 | w :: v :: r=>by
  have ih:=vd qa qb m (v :: r)
  have e1:List.intercalate [(.inr 32:Atm)] (w :: v :: r)=w++([.inr 32]++List.intercalate [.inr 32] (v :: r)):=by simp[List.intercalate,List.intersperse]
  have e2:List.intercalate [(32:UInt8)] ((w :: v :: r).map (flA qa qb m))=flA qa qb m w++([32]++List.intercalate [32] ((v :: r).map (flA qa qb m))):=by simp[List.intercalate,List.intersperse]
  rw[e1,e2,zdt,zdt,ih]
  rfl
theorem zf4 (k:Int) (qa qb m:List UInt8):Lib.join ((Qo 32 (qE k)).map fun w=>QW w qa qb m) [32]=zpE k qa qb m:=by
 unfold zpE zcV
 rw[vd,List.map_map]
 show List.intercalate [32] _=_
 congr 1
 exact List.map_congr_left fun w _=>zge w qa qb m
theorem yL (k:Int) (h:¬(1<=k/\k<=22)):qE k = []:=by
 have n1:¬k=1:=by omega
 have n2:¬k=2:=by omega
 have n3:¬k=3:=by omega
 have n4:¬k=4:=by omega
 have n5:¬k=5:=by omega
 have n6:¬k=6:=by omega
 have n7:¬k=7:=by omega
 have n8:¬k=8:=by omega
 have n9:¬k=9:=by omega
 have n10:¬k=10:=by omega
 have n11:¬k=11:=by omega
 have n12:¬k=12:=by omega
 have n13:¬k=13:=by omega
 have n14:¬k=14:=by omega
 have n15:¬k=15:=by omega
 have n16:¬k=16:=by omega
 have n17:¬k=17:=by omega
 have n18:¬k=18:=by omega
 have n19:¬k=19:=by omega
 have n20:¬k=20:=by omega
 have n21:¬k=21:=by omega
 have n22:¬k=22:=by omega
 simp only[qE,n1,n2,n3,n4,n5,n6,n7,n8,n9,n10,n11,n12,n13,n14,n15,n16,n17,n18,n19,n20,n21,n22,if_false]
theorem Na (k:Int):qE k = []∨((∀ x∈Qo 32 (qE k),x≠[]/\x.length<=100)/\(qE k).length<=100):=by
 by_cases h:1<=k/\k<=22
 ·refine .inr ?_
  have hc:k=1∨k=2∨k=3∨k=4∨k=5∨k=6∨k=7∨k=8∨k=9∨k=10∨k=11∨k=12∨k=13∨k=14∨k=15∨k=16∨k=17∨k=18∨k=19∨k=20∨k=21∨k=22:=by omega
  clear h
  rcases hc with rfl | rfl | rfl | rfl | rfl | rfl | rfl | rfl | rfl | rfl | rfl | rfl | rfl | rfl | rfl | rfl | rfl | rfl | rfl | rfl | rfl | rfl<;>exact ⟨by decide +kernel,by decide +kernel⟩
 ·exact .inl (yL k h)
theorem Mg (f:List UInt8->List UInt8) (n:Nat):∀ xs:List (List UInt8),(∀ x∈xs,(f x).length<=n)->((xs.map f).map fun x=>x.length+1).sum<=xs.length*(n+1)
 | [],_=>by simp
 | x :: r,h=>by
  have ih:=Mg f n r fun y hy=>h y (List.mem_cons_of_mem _ hy)
  have:=h x List.mem_cons_self
  simp only[List.map_cons,List.sum_cons,List.length_cons,Nat.add_mul]
  omega
theorem za9 (xs:List (List UInt8)) (sep:List UInt8) (n:Nat) (hs:sep.length<=1) (h:(xs.map fun x=>x.length+1).sum<=n):(Lib.join xs sep).length<=n:=by
 have key:∀ xs:List (List UInt8),(Lib.join xs sep).length<=(xs.map fun x=>x.length+1).sum:=by
  intro xs
  match xs with
  | []=>simp[Lib.join]
  | [x]=>simp[Lib.join_one]
  | x :: y :: r =>
   have ih:∀ (zs:List (List UInt8)) (z:List UInt8),(Lib.join (z :: zs) sep).length<=((z :: zs).map fun x=>x.length+1).sum:=by
    intro zs
    induction zs with
    | nil=>intro z;simp[Lib.join_one]
    | cons u t iht =>
     intro z
     rw[jZ]
     have:=iht u
     simp only[List.length_append,List.map_cons,List.sum_cons]at this ⊢
     omega
   exact ih (y :: r) x
 exact Nat.le_trans (key xs) h
def XT (k w:Int) (a b:List UInt8) (e:Int):List UInt8:=
 if Jk k = [] then [] else if qE w = [] then [] else Jk k++[58,32]++zpE w (qj a) (qj b) (M8 e)
theorem zc5 (k:Int):(Jk k).length<=10:=by
 have key:∀ (c:Prop) [Decidable c] (x y:List UInt8),x.length<=10->y.length<=10->(if c then x else y).length<=10:=fun c _ x y hx hy=>by
  by_cases h:c
  ·rw[if_pos h];exact hx
  ·rw[if_neg h];exact hy
 unfold Jk
 repeat' (first | decide | refine key _ _ _ (by decide) ?_)
theorem zhy (k w:Int) (a b:List UInt8) (e:Int) (ha:a.length<=1000) (hb:b.length<=1000):Fun Tryz.prog G2 59 [.sc (.int .i64 k),.sc (.int .i64 w),.str a,.str b,.sc (.int .i64 e)] (.str (XT k w a b e)) 0:=by
 have h1:=My k
 have h2:=zaA w
 have hnl:=zc5 k
 by_cases hn:Jk k = []
 ·rw[hn]at h1
  refine fon Tryz.func59 ?_;dsimp only[Tryz.f59]
  push_cast -dsimp
  refine cl (h1) ?_;push_cast -dsimp
  refine cl (h2) ?_;push_cast -dsimp
  exact ⟨[],rfl,rfl,by push_cast -dsimp [zb,za,CLe,zd]<;>simp[XT,hn]⟩
 by_cases hp:qE w = []
 ·rw[hp]at h2
  refine fon Tryz.func59 ?_;dsimp only[Tryz.f59]
  push_cast -dsimp
  refine cl (h1) ?_;push_cast -dsimp
  refine cl (h2) ?_;push_cast -dsimp [hn]
  exact ⟨[],rfl,rfl,by push_cast -dsimp [zb,za,CLe,zd]<;>simp[XT,hn,hp]⟩
 obtain ⟨hws,hpl⟩:(∀ x∈Qo 32 (qE w),x≠[]/\x.length<=100)/\(qE w).length<=100:=(Na w).resolve_left hp
 have hpw:=hp
 have hsay:=zf4 w (qj a) (qj b) (M8 e)
 have hsl:=yY 32 (qE w)
 have hsum:=Mg (fun x=>QW x (qj a) (qj b) (M8 e)) 5100 (Qo 32 (qE w)) fun x hx=>by
  have:=zbQ x a b e ha hb
  have:=(hws x hx).2
  omega
 have hjl:=za9 ((Qo 32 (qE w)).map fun x=>QW x (qj a) (qj b) (M8 e)) [32] 600000 (by decide) (by
  have:(Qo 32 (qE w)).length*(5100+1)<=101*5101:=Nat.mul_le_mul_right _ (by omega)
  omega)
 have hit:=NM 32 (qE w) (by omega)
 generalize qE w=P at h2 hp hws hpl hsay hsl hsum hjl hit
 rw[hsay]at hjl
 refine fof (fun i=>if i=7 then [false,false,false,false,false,false,false,true,true] else []) Tryz.func59 ?_;dsimp only[Tryz.f59]
 push_cast -dsimp
 refine cl (h1) ?_;push_cast -dsimp
 refine cl (h2) ?_;push_cast -dsimp [hn,hp]
 refine Qj [] [] ((Gf 32 P).glob0) rfl (by simp) (by simp) (fun i hi=>by cases hi) (by push_cast -dsimp) rfl ?_
 push_cast -dsimp
 refine range (zQ (Qo 32 P)) (fun _=>false) 4 (fun j=>⟨[],[[.str a],[.str b],[.sc (.int .i64 e)],[.own 0 9 1 (zQ (((Qo 32 P).take j).map fun x=>QW x (qj a) (qj b) (M8 e)))]],1,0⟩) hit.glob0 (by push_cast -dsimp) (by push_cast -dsimp) (by push_cast -dsimp) (Nat.zero_le _) (by push_cast -dsimp) (fun it h=>?_) (fun j _=>rfl) ?_ (fun j it hj hsf=>?_) (fun hsf=>?_)
 ·obtain ⟨x,_,rfl⟩:=List.mem_map.1 h;rfl
 ·exact wks [.inr (9,1)]
 ·obtain ⟨x,hx,rfl⟩:=XP hj
  have hjl2:j<(Qo 32 P).length:=(List.getElem?_eq_some_iff.1 hx).1
  have hxw:=hws x (List.mem_of_getElem? hx)
  have hs1:=ziL x a b e hxw.1 (by omega) ha hb
  push_cast -dsimp
  refine cl (hs1) ?_;push_cast -dsimp
  repeat refine an ?_
  refine Jc.mk [.inl 0] rfl rfl (Nat.le_refl _) rfl (by push_cast -dsimp [zb,za,CLe,zd]) ?_
  push_cast -dsimp [zb,za,CLe,zd]
  rw[List.take_add_one,hx]
  simp
 ·have htk:(Qo 32 P).take (Qo 32 P).length=Qo 32 P:=List.take_length
  have j1:=((Vq ((Qo 32 P).map fun x=>QW x (qj a) (qj b) (M8 e)) [32] (by rw[List.length_map];omega) (by rw[hsay];omega)).res (congrArg C.str hsay)).glob0 (G':=G2)
  have j2:=((zh9 [Jk k,zpE w (qj a) (qj b) (M8 e)] (by simp) (by rw[jZ,Lib.join_one];simp only[List.length_append,List.length_cons,List.length_nil];omega)).res (congrArg C.str (show _=XT k w a b e by rw[jZ,Lib.join_one,XT,if_neg hn,if_neg hpw]))).glob0 (G':=G2)
  push_cast -dsimp [htk]
  refine cl (j1) ?_;push_cast -dsimp
  refine cl (j2) ?_;push_cast -dsimp
  exact dn
end
section
open CA CB
open Go.RowKit QuotePlain
end
section
open CA CB
open Go.RowKit
def GD:zn:=fun g=>if g=4 then G1 g else G2 g
theorem zrH (g:Nat) (cs:List C) (h:G1 g=some cs):GD g=some cs:=by
 unfold GD
 by_cases hg:g=4
 ·rw[if_pos hg];exact h
 ·unfold G1 at h
  rw[if_neg hg]at h
  cases h
theorem zrB (g:Nat) (cs:List C) (h:G2 g=some cs):GD g=some cs:=by
 unfold GD
 by_cases hg:g=4
 ·subst hg
  have q:G2 4=none:=rfl
  rw[q]at h;cases h
 ·rw[if_neg hg];exact h
theorem Fun.gd1 {f:FuncId} {args:List C} {r:C} {n:Nat} (h:Fun Tryz.prog G1 f args r n):Fun Tryz.prog GD f args r n:=h.glob zrH
theorem Fun.gd2 {f:FuncId} {args:List C} {r:C} {n:Nat} (h:Fun Tryz.prog G2 f args r n):Fun Tryz.prog GD f args r n:=h.glob zrB
abbrev zrg (d:zK) (ops diags:C):C:=.agg [.sc (.int .i64 d.w.fs.maxI),.sc (.int .i64 d.w.fs.maxB),.sc (.int .i64 d.w.fs.next),.sl 6 (zp d.w.fs.xs),.sl 4 (zC d.w.kept),.sl 6 (zp d.w.pool),ops,diags,.sc (.int .i64 d.status),.sc (.int .i64 d.slot)]
structure ze0 (d:zK):Prop where
 wi:xw d.w
 ws:zmI d.w
 ops:d.ops.length<=80000
 diags:d.diags.length<=80000
 slot:0<=d.slot/\d.slot<=4000000000000000000
theorem znj (o:OpV):opL o = [.sc (.int .i64 o.kind),.sc (.int .i64 o.slot),.str o.a,.str o.b,.str o.d]:=rfl
abbrev U9:List C:=[.any,.any,.any,.any,.any,.any,.any,.any,.any,.any]
def Ja (d:zK) (x:List UInt8):zK:={ d with diags:=d.diags++[x],status:=1 }
theorem zkc (d:zK) (hd:d.diags.length<=80000) (k w:Int) (a b:List UInt8) (e:Int) (ha:a.length<=1000) (hb:b.length<=1000) :
  Y1 Tryz.prog GD 29 [VV d,.sc (.int .i64 k),.sc (.int .i64 w),.str a,.str b,.sc (.int .i64 e)] [] 0 (fun r bx n=>n=0/\∃ c B,zox 1 c (zQ (Ja d (XT k w a b e)).diags) B/\r=zrg (Ja d (XT k w a b e)) (.sl 5 (d.ops.map opL)) (.bs 2 0 1 (d.diags.length+1) c)/\bx = [U9,U9,B]):=by
 have ht:=(zhy k w a b e ha hb).gd2
 generalize XT k w a b e=x at ht ⊢
 have hsl:(zQ d.diags).length=d.diags.length:=List.length_map ..
 have hc:=MM (G:=GD) (zQ d.diags) [[.str x]] (fun r hr=>by obtain ⟨x,_,rfl⟩:=List.mem_map.1 hr;rfl) (fun r hr=>by rw[List.mem_singleton.1 hr];rfl) (fun r hr=>by obtain ⟨x,_,rfl⟩:=List.mem_map.1 hr;rfl) (fun r hr=>by rw[List.mem_singleton.1 hr];rfl) (by omega) (by simp) (by simp)
 refine foX (fun i=>if i=1 then [false,false,false,false,false,false,false,false,false,false,false,true,false,false,true] else []) Tryz.func29 ?_;dsimp only[Tryz.f29]
 push_cast -dsimp
 refine cl (ht) ?_;push_cast -dsimp
 refine jS [] [] hc rfl (by decide) (by decide) (by simp) (by push_cast -dsimp) (by push_cast -dsimp) (fun r bx' m hp=>?_)
 obtain ⟨rfl,c,B,hB,rfl,rfl⟩:=hp
 have hre:∀ fp fo,C.reL fp fo B=B:=fun fp fo=>zD hB.stay
 push_cast -dsimp [hre]
 have hm:zQ (Ja d x).diags=zQ d.diags++[[.str x]]:=List.map_append
 exact ⟨_,[U9,U9,B],0,⟨⟨rfl,c,B,by rw[hm];exact hB,rfl,rfl⟩,Nat.zero_le _⟩,[],rfl,rfl,by (push_cast -dsimp [zb,za,CLe,zd];exact zN hB.stay),by push_cast -dsimp [zb,za,CLe,zd,Ja,List.length_append,hsl]⟩
theorem zeE (d:zK) (hd:d.diags.length<=80000) (k w:Int) (a b:List UInt8) (e:Int) (ha:a.length<=1000) (hb:b.length<=1000) :
  Fun Tryz.prog GD 29 [VV d,.sc (.int .i64 k),.sc (.int .i64 w),.str a,.str b,.sc (.int .i64 e)] (zrg (Ja d (XT k w a b e)) (.sl 5 (d.ops.map opL)) (.own 0 9 1 (zQ (Ja d (XT k w a b e)).diags))) 1:=
 (zkc d hd k w a b e ha hb).fun (by
  rintro r bx m ⟨rfl,c,B,hB,rfl,rfl⟩
  exact ⟨[(2,9,1,zQ (Ja d (XT k w a b e)).diags,c)],[.inl 0],hB.ok rfl (by simp[Ja]) (fun r hr=>by obtain ⟨x,_,rfl⟩:=List.mem_map.1 hr;rfl),rfl,rfl,by push_cast -dsimp [zb,za,CLe,zd,List.length_map,List.length_append,Ja]⟩)
end
section
open CA CB
open Go.RowKit
end
end Go.Proofs.YtlkjpfiancahiaaGreatDoor.Vcg
