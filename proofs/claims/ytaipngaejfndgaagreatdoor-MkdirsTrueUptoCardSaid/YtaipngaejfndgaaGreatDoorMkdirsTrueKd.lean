/- What the proof of MkdirsTrue leans on, part 4: Ref3 PathLaw Open Laid Op1 QuotePlain QuotePlain2 QuotePlain3 OpV Op2 Wld0 Ent1 Ent2 EntW TabW Wld1 Wld2 Wld3 Wld4 Wld5 Room Plc Crt Drp Mov SlcK Sts OpenW StW Sts2 StX Kep Stp Stp2 Stp3 Stp4 Deed Doo Dra1 Dra2 Rf4 Rf5 Rf6 Rf7 Op3 Op4 Op5 Ref19 Rf8 Snd2 Snd3 Snd4 Snd5 Snd6 Snd7 Rf9 Rf10 Grw Con Kit KitBytes QuoteWalk1 Builder QuoteWalk2 Diag1 Spl Diag2 Diag3 Diag4 Dra3 Ref19b Ref19c Rf11 Ref8 Wlk1 Wlk2. No condition beyond what each theorem states. -/
import Derived.Test.YtaipngaejfndgaaGreatDoorMkdirsTrueKc
import Derived.ProofKit
import Derived.Deep.Slices
import Derived.Deep.Fields
import Derived.ChangeSame
import Derived.ChangeOld
import Derived.Lib.SmallJoins
import Derived.Lib.LaidU8
import Derived.OpenShut
import Derived.FnData
import Derived.Lib.Bytealg
import Derived.WalkKit
import Derived.Lib.Hide
import Derived.Lib.Join
import Derived.Deep.Draws
import Derived.Lib.SlBytesRow
import Derived.StillTailTactics
import Derived.Test.YtaipngaejfndgaaGreatDoorProg
import Derived.WalkLawsBesides
import Derived.WalkSpells
import Derived.Shelf.Strings.Builder1
import Derived.Shelf.Strings.BuilderF
import Derived.Shelf.Strings.SlTrimAscii
set_option linter.unusedVariables false
set_option linter.unusedSimpArgs false
set_option linter.unusedSectionVars false
set_option maxRecDepth 100000
set_option maxHeartbeats 4000000
namespace Go.Proofs.YtaipngaejfndgaaGreatDoor.Vcg
section
open Go.RowKit
theorem zny (l:List UInt8) (b:UInt8) (h:l[0]?=some b):Lib.hasPrefix l [47]=decide ((b.toNat:Int)=47):=by
 cases l with
 | nil=>simp at h
 | cons x r =>
  simp at h;subst h
  unfold Lib.hasPrefix
  by_cases h:x=47
  ·subst h;rfl
  ·have h2:¬((x.toNat:Int)=47):=zdm h
   have h3:¬(47=x):=fun e=>h e.symm
   simp[List.isPrefixOf,h2,h3]
theorem znU (l:List UInt8) (b:UInt8) (h:l[l.length-1]?=some b):Lib.hasSuffix l [47]=decide ((b.toNat:Int)=47):=by
 have hne:l≠[]:=fun e=>by subst e;simp at h
 have hl:l=l.take (l.length-1)++[b]:=by
  have hlt:l.length-1<l.length:=by have:=List.length_pos_iff.2 hne;omega
  have:=List.take_append_drop (l.length-1) l
  rw[List.drop_eq_getElem_cons hlt]at this
  rw[List.getElem?_eq_getElem hlt]at h
  cases h
  rw[List.drop_eq_nil_of_le (by omega)]at this
  exact this.symm
 rw[hl]
 unfold Lib.hasSuffix
 by_cases h:b=47
 ·subst h
  have:([47]:List UInt8) <:+ l.take (l.length-1)++[47]:=List.suffix_append _ _
  rw[List.isSuffixOf_iff_suffix.2 this];rfl
 ·have h2:¬((b.toNat:Int)=47):=zdm h
  have h3:¬([47]:List UInt8) <:+ l.take (l.length-1)++[b]:=fun ⟨t,ht⟩=>by
   have:=List.append_inj_right' ht rfl
   simp at this
   exact h this.symm
  have h4:([47]:List UInt8).isSuffixOf (l.take (l.length-1)++[b])=false:=by
   rw[Bool.eq_false_iff];exact fun e=>h3 (List.isSuffixOf_iff_suffix.1 e)
  rw[h4];simp[h2]
theorem zd4:zg [] = []:=rfl
theorem X0 (p:List UInt8) (hp:p.length<=100000):Fun Tryz.prog G0 78 [.str p] (UO p) 1:=by
 have hn:=Uy p (by omega)
 have hs:=zS p
 by_cases hp0:p = []
 ·subst hp0
  have h0:=zd4
  refine fon Tryz.func78 ?_;dsimp only[Tryz.f78]
  push_cast -dsimp
  refine call hn ?_
  push_cast -dsimp [h0]
  exact ⟨[.inl 0],rfl,rfl,by simp only[UO];push_cast -dsimp [zb,za,CLe,ze,h0]<;>exact ⟨rfl,rfl⟩⟩
 ·have hl:0<p.length:=List.length_pos_iff.2 hp0
  obtain ⟨b,hb⟩:∃ b,p[0]?=some b:=⟨_,List.getElem?_eq_getElem hl⟩
  have hpb:=zny p b hb
  by_cases h0:zg p = []
  ·refine fon Tryz.func78 ?_;dsimp only[Tryz.f78]
   push_cast -dsimp
   refine call hn ?_
   push_cast -dsimp [h0,hl,hb]
   exact ⟨[.inl 0],rfl,rfl,by simp only[UO];push_cast -dsimp [zb,za,CLe,ze,h0,hpb]<;>simp⟩
  ·have hlen:0<(zg p).length:=List.length_pos_iff.2 h0
   obtain ⟨c,hc⟩:∃ c,p[p.length-1]?=some c:=⟨_,List.getElem?_eq_getElem (by omega)⟩
   have hsf:=znU p c hc
   have hidx:((p.length:Int)-1).toNat=p.length-1:=by omega
   refine fon Tryz.func78 ?_;dsimp only[Tryz.f78]
   push_cast -dsimp
   refine call hn ?_
   push_cast -dsimp [hlen,hl,hb,hidx,hc]
   refine ⟨by omega,by omega,[.inl 0],rfl,rfl,by simp only[UO];push_cast -dsimp [zb,za,CLe,ze,h0,hpb,hsf]<;>simp⟩
theorem Ut (xs:List (List UInt8)) (k:Nat) (x:List UInt8) (h:xs[k]?=some x):Lib.join (xs.take (k+1)) [47]=(if k=0 then x else Lib.join (xs.take k) [47]++[47]++x):=by
 cases xs with
 | nil=>simp at h
 | cons y r =>
  cases k with
  | zero=>simp at h;subst h;simp[Lib.join_one]
  | succ k =>
   simp only[List.take_succ_cons,Nat.succ_ne_zero,if_false]
   rw[Lib.join_cons,Lib.join_cons,Lib.joinTail_take_succ _ _ _ x (by simpa using h)]
   simp[List.append_assoc]
theorem yD (xs:List (List UInt8)) (k:Nat):(Lib.join (xs.take k) [47]).length<=(Lib.join xs [47]).length:=by
 by_cases h:xs.take k = []
 ·rw[h];simp[Lib.join]
 ·have h1:=XE (xs.take k) h
  have hx:xs≠[]:=fun e=>h (by rw[e];simp)
  have h2:=XE xs hx
  have h3:((xs.take k).map fun x=>x.length+1).sum<=(xs.map fun x=>x.length+1).sum:=by
   conv=>rhs;rw[←List.take_append_drop k xs,List.map_append,List.sum_append]
   omega
  omega
theorem uB (a:Bool) (xs:List (List UInt8)) (s:Bool) (hx:xs.length<=1000001) (hl:(Lib.join xs [47]).length<=100000000):Fun Tryz.prog G0 79 [uU a xs s] (.str (put a xs s)) 0:=by
 unfold uU
 obtain ⟨p0,hp0,hp1⟩:∃ p0:List UInt8,p0=(if a then [47] else [])/\p0.length<=1:=⟨_,rfl,by cases a<;>simp⟩
 have fin:∀ t:List UInt8,t=p0++Lib.join xs [47]->put a xs s=(if s&&!decide (xs = []) then t++[47] else t):=fun t ht=>by
  rw[ht,hp0];unfold put
  cases s<;>simp<;>(by_cases h:xs = []<;>simp[h])
 refine fon Tryz.func79 ?_;dsimp only[Tryz.f79]
 push_cast -dsimp
 cases a
 all_goals
  simp only[Bool.false_eq_true,if_false,if_true]at hp0
  push_cast -dsimp
  refine loop (fun k:Nat=>⟨[(1,.ptr 0 0),(3,.str (p0++Lib.join (xs.take k) [47])),(4,.sc (.int .i64 k))],[[.any,.sl 1 (zx xs),qe s]],0,0⟩) (fun k=>k<=xs.length) (fun k=>xs.length-k) 0 (Nat.zero_le _) ?_ ?_
  ·exact j8.mk [] rfl rfl (Nat.zero_le _) rfl (by push_cast -dsimp [zb,za,CLe,ze]<;>simp[hp0,Lib.join]) (by push_cast -dsimp [zb,za,CLe,ze])
  ·intro k hk
   have hjk:=yD xs k
   by_cases h:k<xs.length
   ·have hg:=X4 xs k h
    have hjs:=Ut xs k (xs[k]'h) (List.getElem?_eq_getElem h)
    have hj1:=yD xs (k+1)
    have hjl:(Lib.join (xs.take (k+1)) [47]).length=(if k=0 then (xs[k]'h).length else (Lib.join (xs.take k) [47]).length+1+(xs[k]'h).length):=by
     rw[hjs];split<;>simp<;>omega
    by_cases hk0:k=0
    ·subst hk0
     push_cast -dsimp [h,hg]
     simp only[if_true]at hjl
     have hj0:(Lib.join ([]:List (List UInt8)) [47]).length=0:=rfl
     repeat refine an ?_
     refine ⟨1,by omega,by omega,j8.mk [] rfl rfl (Nat.zero_le _) rfl ?_ (by push_cast -dsimp [zb,za,CLe,ze])⟩
     push_cast -dsimp [zb,za,CLe,ze]
     have e:Lib.join (xs.take 1) [47]=xs[0]'h:=by rw[show (1:Nat)=0+1 from rfl,hjs];simp
     rw[e];simp[Lib.join]
    ·have hk1:0<k:=by omega
     push_cast -dsimp [h,hg,hk1]
     rw[if_neg hk0]at hjl
     repeat refine an ?_
     refine ⟨k+1,by omega,by omega,j8.mk [] rfl rfl (Nat.zero_le _) rfl ?_ (by push_cast -dsimp [zb,za,CLe,ze])⟩
     push_cast -dsimp [zb,za,CLe,ze]
     simp[hjs,hk0]
   ·have hkl:k=xs.length:=by omega
    have hf:=fin (p0++Lib.join (xs.take k) [47]) (by rw[hkl,List.take_length])
    push_cast -dsimp [h]
    cases s
    ·push_cast -dsimp
     exact ⟨[],rfl,rfl,by push_cast -dsimp [zb,za,CLe,ze];rw[hf];simp⟩
    ·by_cases hx0:0<xs.length
     ·have hx1:xs≠[]:=List.length_pos_iff.1 hx0
      push_cast -dsimp [hx0]
      repeat refine an ?_
      exact ⟨[],rfl,rfl,by push_cast -dsimp [zb,za,CLe,ze];rw[hf];simp[hx1]⟩
     ·have hx1:xs = []:=List.eq_nil_of_length_eq_zero (by omega)
      push_cast -dsimp [hx0]
      exact ⟨[],rfl,rfl,by push_cast -dsimp [zb,za,CLe,ze];rw[hf];simp[hx1]⟩
theorem uy (xs:List (List UInt8)) (k:Nat) (x:List UInt8) (h:xs[k]?=some x):(if xs.take (k+1) = [] then [] else qr (xs.take (k+1)))=(if xs.take k = [] then [] else qr (xs.take k))++[47]++x:=by
 have hk:k<xs.length:=(List.getElem?_eq_some_iff.1 h).1
 have h1:xs.take (k+1)≠[]:=fun e=>by have:=congrArg List.length e;rw[List.length_take]at this;simp only[List.length_nil]at this;omega
 rw[if_neg h1]
 unfold qr
 rw[if_neg h1,Ut xs k x h]
 by_cases hk0:k=0
 ·subst hk0;simp
 ·have h2:xs.take k≠[]:=fun e=>by have:=congrArg List.length e;rw[List.length_take]at this;simp only[List.length_nil]at this;omega
  simp[h2,hk0]
def jst (xs:List (List UInt8)) (k:Nat):List UInt8:=if xs.take k = [] then [] else qr (xs.take k)
theorem zfb (xs:List (List UInt8)) (k:Nat):(jst xs k).length<=(Lib.join xs [47]).length+1:=by
 unfold jst
 split
 ·simp
 ·rename_i h
  have:=yD xs k
  unfold qr
  rw[if_neg h]
  simp;omega
theorem M2 (xs:List (List UInt8)) (hx:xs.length<=2000001) (hl:(Lib.join xs [47]).length<=100000000):Fun Tryz.prog G0 64 [.sl 1 (zx xs)] (.str (qr xs)) 0:=by
 by_cases h0:xs = []
 ·subst h0
  refine fon Tryz.func64 ?_;dsimp only[Tryz.f64]
  push_cast -dsimp
  exact ⟨[],rfl,rfl,by push_cast -dsimp [zb,za,CLe,ze]<;>simp[qr]⟩
 ·have h0':¬((xs.length:Int)=0):=by have:=List.length_pos_iff.2 h0;omega
  refine fon Tryz.func64 ?_;dsimp only[Tryz.f64]
  push_cast -dsimp [h0']
  refine loop (fun k:Nat=>⟨[(0,.sl 1 (zx xs)),(3,.str (jst xs k)),(4,.sc (.int .i64 k))],[],0,0⟩) (fun k=>k<=xs.length) (fun k=>xs.length-k) 0 (Nat.zero_le _) ?_ ?_
  ·exact j8.mk [] rfl rfl (Nat.zero_le _) rfl (by push_cast -dsimp [zb,za,CLe,ze]<;>simp[jst]) (by push_cast -dsimp [zb,za,CLe,ze])
  ·intro k hk
   by_cases h:k<xs.length
   ·have hg:=X4 xs k h
    have hst:jst xs (k+1)=jst xs k++[47]++xs[k]'h:=uy xs k (xs[k]'h) (List.getElem?_eq_getElem h)
    have hjk:=zfb xs k
    have hjl:=zfb xs (k+1)
    rw[hst]at hjl
    simp only[List.length_append,List.length_cons,List.length_nil]at hjl
    push_cast -dsimp [h,hg]
    repeat refine an ?_
    refine ⟨k+1,by omega,by omega,j8.mk [] rfl rfl (Nat.zero_le _) rfl ?_ (by push_cast -dsimp [zb,za,CLe,ze])⟩
    push_cast -dsimp [zb,za,CLe,ze]
    simp[hst]
   ·have hkl:k=xs.length:=by omega
    push_cast -dsimp [h]
    exact ⟨[],rfl,rfl,by push_cast -dsimp [zb,za,CLe,ze]<;>simp[jst,hkl,h0]⟩
theorem Xy (l:List UInt8) (hl:l.length<=2000000):Fun Tryz.prog G0 63 [.str l] (qe (may l)) 0:=by
 refine fon Tryz.func63 ?_;dsimp only[Tryz.f63]
 push_cast -dsimp
 refine loop (fun k:Nat=>⟨[(0,.str l),(3,.sc (.int .i64 k))],[],0,0⟩) (fun k=>k<=l.length/\∀ j (hj:j<l.length),j<k->bad (l[j]'hj)=false) (fun k=>l.length-k) 0 ⟨Nat.zero_le _,fun j _ hj=>by omega⟩ ?_ ?_
 ·exact wk
 ·intro k hk
  have hk1:=hk.1
  have hk2:=hk.2
  by_cases h:k<l.length
  ·have hb:l[k]?=some (l[k]'h):=List.getElem?_eq_getElem h
   have hbad:bad (l[k]'h)=true->may l=false:=fun hb=>by
    have:l.any bad=true:=List.any_eq_true.2 ⟨l[k]'h,List.getElem_mem h,hb⟩
    simp[may,this]
   by_cases h47:l[k]'h=47
   ·have h1:(((l[k]'h).toNat:Int)=47):=by rw[h47];rfl
    push_cast -dsimp [h,hb,h1]
    refine ⟨by omega,[],rfl,rfl,?_⟩
    push_cast -dsimp [zb,za,CLe,ze]
    rw[hbad (by simp[bad,h47])]
   ·have h1:¬(((l[k]'h).toNat:Int)=47):=zdm h47
    by_cases h00:l[k]'h=0
    ·have h2:(((l[k]'h).toNat:Int)=0):=by rw[h00];rfl
     push_cast -dsimp [h,hb,h1,h2]
     refine ⟨by omega,by omega,[],rfl,rfl,?_⟩
     push_cast -dsimp [zb,za,CLe,ze]
     rw[hbad (by simp[bad,h00])]
    ·have h2:¬(((l[k]'h).toNat:Int)=0):=zdm h00
     push_cast -dsimp [h,hb,h1,h2]
     repeat refine an ?_
     refine ⟨k+1,⟨by omega,fun j hj hjk=>?_⟩,by omega,wk⟩
     rcases Nat.lt_or_ge j k with g | g
     ·exact hk2 j hj g
     ·have:j=k:=by omega
      subst this
      simp[bad,h47,h00]
  ·have hany:l.any bad=false:=List.any_eq_false.2 fun x hx=>by
    obtain ⟨j,hj,rfl⟩:=List.getElem_of_mem hx
    simp[hk2 j hj (by omega)]
   obtain rfl:k=l.length:=by omega
   by_cases h0:l = []
   ·subst h0
    push_cast -dsimp
    exact ⟨[],rfl,rfl,by push_cast -dsimp [zb,za,CLe,ze]<;>simp[may]⟩
   ·have h1:(1:Int)<=(l.length:Int):=by have:=List.length_pos_iff.2 h0;omega
    by_cases h2:(l.length:Int)<=255
    ·have h2':l.length<=255:=by omega
     by_cases h4:l = [46]
     ·subst h4
      push_cast -dsimp
      exact ⟨[],rfl,rfl,by push_cast -dsimp [zb,za,CLe,ze]<;>simp[may]⟩
     ·by_cases h5:l = [46,46]
      ·subst h5
       push_cast -dsimp [h4]
       exact ⟨[],rfl,rfl,by push_cast -dsimp [zb,za,CLe,ze]<;>simp[may]⟩
      ·push_cast -dsimp [h,h1,h2,h4,h5]
       exact ⟨[],rfl,rfl,by push_cast -dsimp [zb,za,CLe,ze]<;>simp[may,h0,h2',hany,h4,h5]⟩
    ·have h2':¬l.length<=255:=by omega
     push_cast -dsimp [h,h1,h2]
     exact ⟨[],rfl,rfl,by push_cast -dsimp [zb,za,CLe,ze]<;>simp[may,h2']⟩
theorem XW (p:List UInt8) (hp:p.length<=100000):Fun Tryz.prog G0 77 [.str p] (qe (J0 p)) 0:=by
 have hn:=Uy p (by omega)
 refine fon Tryz.func77 ?_;dsimp only[Tryz.f77]
 push_cast -dsimp
 refine call hn ?_
 push_cast -dsimp
 refine loop (fun k:Nat=>⟨[(0,.str p),(3,.own 0 9 1 (zx (zg p))),(4,.sc (.int .i64 k))],[],1,0⟩) (fun k=>k<=(zg p).length/\∀ j (hj:j<(zg p).length),j<k->((zg p)[j]'hj).length<=255) (fun k=>(zg p).length-k) 0 ⟨Nat.zero_le _,fun j _ hj=>by omega⟩ ?_ ?_
 ·exact wks [.inl 0]
 ·intro k hk
  have hk1:=hk.1
  have hk2:=hk.2
  have hs:=zS p
  by_cases h:k<(zg p).length
  ·have hg:=X4 (zg p) k h
   by_cases h2:((zg p)[k]'h).length<=255
   ·have h2':¬(255:Int)<(((zg p)[k]'h).length:Int):=by omega
    push_cast -dsimp [h,hg,h2']
    repeat refine an ?_
    refine ⟨k+1,⟨by omega,fun j hj hjk=>?_⟩,by omega,wks [.inl 0]⟩
    rcases Nat.lt_or_ge j k with g | g
    ·exact hk2 j hj g
    ·have:j=k:=by omega
     subst this;exact h2
   ·have h2':(255:Int)<(((zg p)[k]'h).length:Int):=by omega
    push_cast -dsimp [h,hg,h2']
    refine ⟨by omega,[],rfl,rfl,?_⟩
    push_cast -dsimp [zb,za,CLe,ze]
    have:(zg p).any (fun x=>decide (255<x.length))=true:=List.any_eq_true.2 ⟨(zg p)[k]'h,List.getElem_mem h,by simp;omega⟩
    simp[J0,this]
  ·have:(zg p).any (fun x=>decide (255<x.length))=false:=List.any_eq_false.2 fun x hx=>by
    obtain ⟨j,hj,rfl⟩:=List.getElem_of_mem hx
    have:=hk2 j hj (by omega)
    simp;omega
   push_cast -dsimp [h]
   refine ⟨[],rfl,rfl,?_⟩
   push_cast -dsimp [zb,za,CLe,ze]
   simp[J0,this]
   omega
theorem ZQ (p:List UInt8) (hp:p.length<=2000000):Fun Tryz.prog G0 27 [.str p] (JP p) 1:=by
 have hn:=Uy p (by omega)
 have hs:=zS p
 have hj:=QI p
 refine fon Tryz.func27 ?_;dsimp only[Tryz.f27]
 push_cast -dsimp
 refine call hn ?_
 push_cast -dsimp
 refine loop (fun k:Nat=>⟨[(0,.str p),(4,.own 0 9 1 (zx (zg p))),(5,.sc (.int .i64 k))],[],1,0⟩) (fun k=>k<=(zg p).length/\∀ j (hj:j<(zg p).length),j<k->may ((zg p)[j]'hj)=true) (fun k=>(zg p).length-k) 0 ⟨Nat.zero_le _,fun j _ hj=>by omega⟩ ?_ ?_
 ·exact wks [.inl 0]
 ·intro k hk
  have hk1:=hk.1
  have hk2:=hk.2
  by_cases h:k<(zg p).length
  ·have hg:=X4 (zg p) k h
   have hlen:=hj.2 ((zg p)[k]'h) (List.getElem_mem h)
   push_cast -dsimp [h,hg]
   refine ⟨by omega,?_⟩
   refine call (Xy ((zg p)[k]'h) (by omega)) ?_
   push_cast -dsimp
   cases hm:may ((zg p)[k]'h) with
   | true =>
    push_cast -dsimp
    repeat refine an ?_
    refine ⟨k+1,⟨by omega,fun j hj hjk=>?_⟩,by omega,wks [.inl 0]⟩
    rcases Nat.lt_or_ge j k with g | g
    ·exact hk2 j hj g
    ·have:j=k:=by omega
     subst this;exact hm
   | false =>
    have hall:(zg p).all may=false:=List.all_eq_false.2 ⟨(zg p)[k]'h,List.getElem_mem h,by simp[hm]⟩
    push_cast -dsimp
    exact ⟨[.inr (9,1)],rfl,rfl,by simp only[JP,Jw,hall];push_cast -dsimp [zb,za,CLe,ze]<;>simp⟩
  ·have hall:(zg p).all may=true:=List.all_eq_true.2 fun x hx=>by
    obtain ⟨j,hj,rfl⟩:=List.getElem_of_mem hx
    exact hk2 j hj (by omega)
   push_cast -dsimp [h]
   refine call (M2 (zg p) (by omega) (by omega)) ?_
   push_cast -dsimp
   by_cases h1:qr (zg p)=p
   ·push_cast -dsimp [h1]
    exact ⟨[.inl 0],rfl,rfl,by simp only[JP,Jw,h1,hall];push_cast -dsimp [zb,za,CLe,ze]<;>simp⟩
   ·push_cast -dsimp [h1]
    exact ⟨[.inr (9,1)],rfl,rfl,by simp only[JP,Jw,h1];push_cast -dsimp [zb,za,CLe,ze]<;>simp⟩
end
section
open Go.RowKit
def VJ (x:List UInt8):Prop:=x≠[]/\(47:UInt8)∉x
theorem zfk:∀ a t:List UInt8,jH (a++47 :: t)=jH a++jH t
 | [],t=>by
  have:jH (47 :: t) = [] :: jH t:=rfl
  exact this
 | b :: a,t=>by
  have ih:=zfk a t
  have e1:jH (b :: (a++47 :: t))=if b=47 then [] :: jH (a++47 :: t) else match jH (a++47 :: t) with
   | []=>[[b]]
   | x :: r=>(b :: x) :: r:=rfl
  have e2:jH (b :: a)=if b=47 then [] :: jH a else match jH a with
   | []=>[[b]]
   | x :: r=>(b :: x) :: r:=rfl
  rw[List.cons_append,e1,e2,ih]
  by_cases hb:b=47
  ·simp[hb]
  ·rw[if_neg hb,if_neg hb]
   have hne:=NQ a
   cases hs:jH a with
   | nil=>exact absurd hs hne
   | cons x r=>simp
theorem zcJ:∀ x:List UInt8,(47:UInt8)∉x->jH x = [x]
 | [],_=>rfl
 | b :: x,h=>by
  have hb:¬(b=47):=fun e=>h (by rw[e];exact List.mem_cons_self)
  have ih:=zcJ x (fun hx=>h (List.mem_cons_of_mem _ hx))
  unfold jH
  rw[if_neg hb,ih]
theorem zex:∀ (l x:List UInt8),x∈jH l->(47:UInt8)∉x
 | [],x,h=>by simp[jH]at h;subst h;simp
 | b :: l,x,h=>by
  have ih:=zex l
  unfold jH at h
  by_cases hb:b=47
  ·rw[if_pos hb]at h
   rcases List.mem_cons.1 h with rfl | h
   ·simp
   ·exact ih x h
  ·rw[if_neg hb]at h
   have hne:=NQ l
   cases hs:jH l with
   | nil=>exact absurd hs hne
   | cons y r =>
    rw[hs]at h ih
    simp only at h
    rcases List.mem_cons.1 h with rfl | h
    ·intro hm
     rcases List.mem_cons.1 hm with e | hm
     ·exact hb e.symm
     ·exact ih y List.mem_cons_self hm
    ·exact ih x (List.mem_cons_of_mem _ h)
theorem zb6 {l x:List UInt8} (h:x∈zg l):VJ x:=by
 rw[Jf,List.mem_filter]at h
 exact ⟨by simpa using h.2,zex l x h.1⟩
theorem No (a t:List UInt8):zg (a++47 :: t)=zg a++zg t:=by
 rw[Jf,Jf,Jf,zfk,List.filter_append]
theorem Nf {x:List UInt8} (h:VJ x):zg x = [x]:=by
 rw[Jf,zcJ x h.2]
 simp[h.1]
theorem yn (l:List UInt8):zg (47 :: l)=zg l:=No [] l
theorem U1:∀ xs:List (List UInt8),(∀ x∈xs,VJ x)->zg (Lib.join xs [47])=xs
 | [],_=>rfl
 | [x],h=>by rw[Lib.join_one];exact Nf (h x List.mem_cons_self)
 | x :: y :: r,h=>by
  have ih:=U1 (y :: r) fun z hz=>h z (List.mem_cons_of_mem _ hz)
  rw[Yu,List.append_assoc]
  show zg (x++47 :: Lib.join (y :: r) [47])=_
  rw[No,ih,Nf (h x List.mem_cons_self)]
  rfl
theorem Uj (xs:List (List UInt8)) (h:∀ x∈xs,VJ x):zg (qr xs)=xs:=by
 unfold qr
 by_cases hx:xs = []
 ·rw[if_pos hx,hx];rfl
 ·rw[if_neg hx,yn,U1 xs h]
theorem Z2 {x:List UInt8} (h:may x=true):VJ x:=by
 simp only[may,Bool.and_eq_true,Bool.not_eq_true',decide_eq_false_iff_not]at h
 refine ⟨h.1.1.1.1,fun hm=>?_⟩
 have:=List.any_eq_false.1 h.1.1.2 47 hm
 exact this (by decide)
end
section
open Go.RowKit Go.ChangeMaps Go.ChangeShapes Go.WideShapes Go.Deep Go.Joins
theorem yc (R:Env):YT G0 R:=fun g cs h=>by cases h
theorem ZO:∀ {rows:List (List C)},(∀ r∈rows,∃ c,r = [c]/\∃ l:List UInt8,c = .str l/\l.length<=maxLen)->∃ xs:List (List UInt8),rows=zx xs/\∀ x∈xs,x.length<=maxLen
 | [],_=>⟨[],rfl,fun x h=>by cases h⟩
 | r :: rows,h=>by
  obtain ⟨xs,rfl,hx⟩:=ZO fun r' hr=>h r' (List.mem_cons_of_mem _ hr)
  obtain ⟨c,rfl,l,rfl,hl⟩:=h r List.mem_cons_self
  exact ⟨l :: xs,rfl,fun x hx'=>(List.mem_cons.1 hx').elim (fun e=>e▸hl) (hx x)⟩
section
variable {H:Type} {enc:TypeId×Value->H} {W:World}
theorem zf8:Opn enc Tryz.prog W 30 fun c=>∃ xs:List (List UInt8),c = .sl 1 (zx xs)/\xs.length<=maxLen/\∀ x∈xs,x.length<=maxLen:=fun fuel cs x hx=>by
 obtain ⟨v,c,rfl,⟨rows,rfl,hl,hr⟩,h1,h2⟩:=Opn.slice (W:=W) (enc:=enc) Tryz.underlying30 (show Tryz.prog.cellsOf 9=1 by kernel_rfl) (Nat.zero_lt_one) (qP.one (Opn.str Tryz.underlying9)) fuel cs x hx
 obtain ⟨xs,rfl,hx'⟩:=ZO hr
 exact ⟨v,_,rfl,⟨xs,rfl,by simpa using hl,hx'⟩,h1,h2⟩
end
end
section
open Go.RowKit
mutual
/-- the cells that read as a datum of Jw data -/
def Q7:DataW Unit->Option (List Value)
 | .lit (.int k n)=>some [.int k n]
 | .lit (.bool b)=>some [.bool b]
 | .lit (.string l)=>some [.string ⟨l.toArray⟩]
 | .agg ds=>Uv ds
 | _=>none
def Uv:List (DataW Unit)->Option (List Value)
 | []=>some []
 | d :: ds=>match Q7 d,Uv ds with
  | some a,some b=>some (a++b)
  | _,_=>none
end
def N7 (P:Program):Nat->List Field->Nat->Bool
 | j,[],n=>j==n
 | j,f :: fs,n=>f.offset==j&&N7 P (j+P.cellsOf f.type) fs n
def Vu (P:Program):Nat->TypeId->Bool
 | 0,_=>false
 | m+1,t=>match P.underlying t with
  | some .bool=>true
  | some (.int _)=>true
  | some .string=>true
  | some (.struct fs)=>N7 P 0 fs.toList (P.cellsOf t)&&fs.toList.all fun f=>Vu P m f.type
  | some (.array n e)=>Vu P m e&&P.cellsOf t==n*P.cellsOf e
  | _=>false
section
variable {enc:TypeId×Value->Unit} {P:Program} {w:World} {base:Nat} {spare:Nat->Bool} {held:Bool}
theorem Vo {d:DataW Unit} {ds:List (DataW Unit)} {a b:List Value} (h1:Q7 d=some a) (h2:Uv ds=some b):Uv (d :: ds)=some (a++b):=by
 rw[Uv,h1,h2]
theorem QQ {n:Nat} {cs:List Value} (ih:∀ t cs d p,Vu P n t=true->DataW.trod enc P w base spare held n t cs=some (d,p)->Q7 d=some cs) {m:Nat} (hm:∀ t cs d p,Vu P m t=true->DataW.trod enc P w base spare held n t cs=some (d,p)->Q7 d=some cs) :
  ∀ (fs:List Field) (j N:Nat) (xs:List (DataW Unit×List MemPlace)),N7 P j fs N=true->(fs.all fun f=>Vu P m f.type)=true->cs.length=N->xs.length=fs.length ->
   (∀ (i:Nat) (f:Field),fs[i]?=some f->DataW.trod enc P w base spare held n f.type ((cs.drop f.offset).take (P.cellsOf f.type))=xs[i]?)->Uv (xs.map (·.1))=some (cs.drop j)
 | [],j,N,xs,hc,_,hl,hx,_=>by
  simp only[N7,beq_iff_eq]at hc
  match xs,hx with
  | [],_=>rw[List.drop_of_length_le (by omega)];rfl
 | f :: fs,j,N,xs,hc,ha,hl,hx,hf=>by
  simp only[N7,Bool.and_eq_true,beq_iff_eq]at hc
  simp only[List.all_cons,Bool.and_eq_true]at ha
  match xs,hx with
  | x :: xs,hx =>
   have h0:=hf 0 f rfl
   have e0:Q7 x.1=some ((cs.drop f.offset).take (P.cellsOf f.type)):=hm _ _ _ x.2 ha.1 h0
   have e1:=QQ ih hm fs _ N xs hc.2 ha.2 hl (by simpa using hx) fun i g hg=>hf (i+1) g hg
   rw[List.map_cons,Vo e0 e1,hc.1,←List.drop_drop,List.take_append_drop]
theorem Zt {n:Nat} {e:TypeId} {cs:List Value}:∀ (N j:Nat) (xs:List (DataW Unit×List MemPlace)),(∀ cs d p,DataW.trod enc P w base spare held n e cs=some (d,p)->Q7 d=some cs)->cs.length=(j+N)*P.cellsOf e->xs.length=N ->
   (∀ (i:Nat),i<N->DataW.trod enc P w base spare held n e ((cs.drop ((j+i)*P.cellsOf e)).take (P.cellsOf e))=xs[i]?)->Uv (xs.map (·.1))=some (cs.drop (j*P.cellsOf e))
 | 0,j,xs,_,hl,hx,_=>by
  match xs,hx with
  | [],_=>rw[List.drop_of_length_le (by simp at hl;omega)];rfl
 | N+1,j,xs,hm,hl,hx,hf=>by
  match xs,hx with
  | x :: xs,hx =>
   have e0:=hm _ _ x.2 (hf 0 (Nat.zero_lt_succ _))
   have e1:=Zt N (j+1) xs hm (by rw[hl];congr 1;omega) (by simpa using hx) fun i hi=>by
    have:=hf (i+1) (by omega)
    rw[show j+(i+1)=j+1+i by omega]at this
    exact this
   rw[List.map_cons,Vo e0 e1,Nat.add_zero,show (j+1)*P.cellsOf e=j*P.cellsOf e+P.cellsOf e by rw[Nat.add_mul];omega,←List.drop_drop,List.take_append_drop]
theorem Xk:∀ (n m:Nat) (t:TypeId) (cs:List Value) (d:DataW Unit) (p:List MemPlace),Vu P m t=true->DataW.trod enc P w base spare held n t cs=some (d,p)->Q7 d=some cs
 | 0,m,t,cs,d,p,_,h=>by simp[DataW.trod]at h
 | n+1,0,t,cs,d,p,hf,h=>by simp[Vu]at hf
 | n+1,m+1,t,cs,d,p,hf,h=>by
  unfold Vu at hf
  split at hf
  ·rename_i hu
   obtain ⟨b,rfl,e⟩:=DataW.trod_bool hu h
   cases e;rfl
  ·rename_i k hu
   obtain ⟨b,rfl,e,_⟩:=DataW.trod_int hu h
   cases e;rfl
  ·rename_i hu
   obtain ⟨s,rfl,e,_⟩:=DataW.trod_string hu h
   cases e
   rw[Q7]
  ·rename_i fs hu
   simp only[Bool.and_eq_true]at hf
   obtain ⟨xs,n',hn,e,hl,hx,hg⟩:=DataW.trod_struct hu h
   cases hn;cases e
   have hrec:∀ t cs d p,Vu P m t=true->DataW.trod enc P w base spare held n t cs=some (d,p)->Q7 d=some cs:=fun t cs d p=>Xk n m t cs d p
   have:=QQ (n:=n) (fun t cs d p=>Xk n n t cs d p) hrec fs.toList 0 _ xs hf.1 hf.2 hl (by rw[hx];rfl) fun i f hif=>hg i f (by simpa using hif)
   rw[List.drop_zero]at this
   rw[Q7,this]
  ·rename_i N e hu
   simp only[Bool.and_eq_true,beq_iff_eq]at hf
   obtain ⟨xs,n',hn,e',hl,hx,hg⟩:=DataW.trod_array hu h
   cases hn;cases e'
   have:=Zt (n:=n) (e:=e) (cs:=cs) N 0 xs (fun cs d p=>Xk n m e cs d p hf.1) (by rw[hl,hf.2,Nat.zero_add]) hx fun i hi=>by rw[Nat.zero_add];exact hg i hi
   rw[Nat.zero_mul,List.drop_zero]at this
   rw[Q7,this]
  ·cases hf
end
theorem HS {W:World} {g:Nat}:∀ (vs:List Value) (o:Nat),(∀ (i:Nat) v,vs[i]?=some v->W.cell? ⟨g,o+i,none⟩=some v)->(vs.all fun v=>v.oneCell')=true->zA (GL W) (vs.map zt) g o:=fun vs o h ho=>by
 refine zM fun i c hc=>?_
 rw[List.getElem?_map,Option.map_eq_some_iff]at hc
 obtain ⟨v,hv,rfl⟩:=hc
 exact ⟨v,h i v hv,fun hf=>hf,qY _ _ v,List.all_eq_true.1 ho v (List.mem_of_getElem? hv)⟩
theorem H6 {P:Program} {W:World} {l:List (String×DataW Unit)} (h:laidMetH P l W) (hp:(l.filter fun x=>x.2.handleName?.isSome) = []) {n:String} {d:DataW Unit} (hm:(n,d)∈l) {g:Nat} {t:TypeId} {m:Nat} {vs:List Value}
  (hg:P.globalNamed n=some g) (ht:(P.globals[g]?).map (·.type)=some t) (hf:Vu P m t=true) (hd:Q7 d=some vs) (ho:(vs.all fun v=>v.oneCell')=true):zA (GL W) (vs.map zt) g 0:=by
 unfold laidMetH at h
 rw[hp]at h
 obtain ⟨g',t',cs,fuel,p,hg',ht',hvar,htr⟩:=Lib.laidMet.reads h hm
 rw[hg]at hg';cases hg'
 rw[ht]at ht';cases ht'
 have e:=Xk _ _ _ _ _ _ hf htr
 have e':vs=cs.toList:=Option.some.inj (hd.symm.trans e)
 subst e'
 refine HS _ 0 (fun i v hv=>?_) ho
 rw[World.var?_cell hg hvar,Nat.zero_add]
 simpa using hv
theorem j5 {P:Program} {W:World} {l:List (String×DataW Unit)} (h:laidMetH P l W) (hp:(l.filter fun x=>x.2.handleName?.isSome) = []) {n:String} {d:DataW Unit} (hm:(n,d)∈l) {g:Nat} {t:TypeId} {m:Nat} {vs:List Value}
  (hg:P.globalNamed n=some g) (ht:(P.globals[g]?).map (·.type)=some t) (hf:Vu P m t=true) (hd:Q7 d=some vs) (ho:(vs.all fun v=>v.oneCell')=true) :
  zA (GL W) (vs.map zt) g 0/\(∃ us ty fl,(GL W).w.heap[g]?=some (.cells us ty fl)/\us.size=(vs.map zt).length)/\∀ o,¬(GL W).M g o:=by
 refine ⟨H6 h hp hm hg ht hf hd ho,?_,fun o h=>h⟩
 unfold laidMetH at h
 rw[hp]at h
 obtain ⟨g',t',cs,fuel,p,hg',ht',hvar,htr⟩:=Lib.laidMet.reads h hm
 rw[hg]at hg';cases hg'
 rw[ht]at ht';cases ht'
 have e:=Xk _ _ _ _ _ _ hf htr
 have e':vs=cs.toList:=Option.some.inj (hd.symm.trans e)
 subst e'
 unfold World.var? at hvar
 rw[hg]at hvar
 simp only[Option.bind_some]at hvar
 split at hvar
 ·rename_i cs' ty fl hh
  cases hvar
  exact ⟨_,_,_,hh,by simp⟩
 ·cases hvar
theorem Fun.glob {P:Program} {G G':zk} {f:FuncId} {args:List C} {r:C} {n:Nat} (h:Fun P G f args r n) (hG:∀ g cs,G g=some cs->G' g=some cs):Fun P G' f args r n:=
 ⟨h.1,fun R vs hg ha=>h.2 R vs (fun g cs e=>hg g cs (hG g cs e)) ha⟩
theorem Fun.glob0 {P:Program} {G':zk} {f:FuncId} {args:List C} {r:C} {n:Nat} (h:Fun P G0 f args r n):Fun P G' f args r n:=h.glob fun g cs e=>by cases e
end
section
open CA CB
open Go.RowKit
def zmx:List Value:=[.bool false,.bool false,.bool false,.bool false,.bool false,.bool false,.bool false,.bool true,.bool false,.bool true,.bool true,.bool false,.bool false,.bool false,.bool true,.bool false,.bool true,.bool false,.bool false,.bool true,.bool false,.bool true,.bool false,.bool false,.bool false,.bool false,.bool false,.bool true,.bool false,.bool false,.bool true,.bool false,.bool false]
def G1:zk:=fun g=>if g=2 then some (zmx.map zt) else none
theorem znV:G1 2=some [.sc (.bool false),.sc (.bool false),.sc (.bool false),.sc (.bool false),.sc (.bool false),.sc (.bool false),.sc (.bool false),.sc (.bool true),.sc (.bool false),.sc (.bool true),.sc (.bool true),.sc (.bool false),.sc (.bool false),.sc (.bool false),.sc (.bool true),.sc (.bool false),.sc (.bool true),.sc (.bool false),.sc (.bool false),.sc (.bool true),.sc (.bool false),.sc (.bool true),.sc (.bool false),.sc (.bool false),.sc (.bool false),.sc (.bool false),.sc (.bool false),.sc (.bool true),.sc (.bool false),.sc (.bool false),.sc (.bool true),.sc (.bool false),.sc (.bool false)]:=rfl
attribute [push_cast] znV
def qc (p:List UInt8):Bool:=Jw p&&!decide (zg p = [])
theorem NR (p:List UInt8) (hp:p.length<=1000000):Fun Tryz.prog G0 183 [.str p] (qe (qc p)) 0:=by
 have h:=Mh p hp
 unfold JP at h
 cases hb:Jw p with
 | false =>
  rw[hb]at h
  refine fon Tryz.func183 ?_;dsimp only[Tryz.f183]
  push_cast -dsimp
  refine cl (h) ?_;push_cast -dsimp
  exact ⟨[],rfl,rfl,by push_cast -dsimp [zb,za,CLe,ze];simp[qc,hb]⟩
 | true =>
  rw[hb,if_pos rfl]at h
  refine fon Tryz.func183 ?_;dsimp only[Tryz.f183]
  push_cast -dsimp
  refine cl (h) ?_;push_cast -dsimp
  refine ⟨[],rfl,rfl,?_⟩
  push_cast -dsimp [zb,za,CLe,ze]
  by_cases hn:zg p = []
  ·simp[qc,hb,hn]
  ·have:=List.length_pos_iff.2 hn
   simp[qc,hb,hn,this]
theorem uH (l:List UInt8):Fun Tryz.prog G0 177 [.str l,.str [0]] (.sc (.int .i64 (Lib.indexByte l 0))) 0:=by
 refine Fun.wrap (by kernel_rfl) fun R vs h=>?_
 obtain ⟨v1,us1,rfl,h1,h⟩:=zd.1 h
 obtain ⟨v2,us2,rfl,h2,h⟩:=zd.1 h
 rw[zh]at h
 subst h
 rw[zE]at h1 h2
 subst h1 h2
 refine (Tryz.strings_Index_one ⟨l.toArray⟩ 0 R.w).mono ?_
 rintro e w' ⟨rfl,rfl⟩
 exact ⟨_,rfl,Below.refl _ _,fun R' _=>zj.2 (by simp)⟩
theorem U9:∀ l:List UInt8,decide (0<=Lib.indexByte l 0)=l.any (fun b=>decide (b=0))/\-1<=Lib.indexByte l 0
 | []=>⟨rfl,by decide⟩
 | b :: l=>by
  obtain ⟨h1,h2⟩:=U9 l
  unfold Lib.indexByte
  by_cases hb:b=0
  ·subst hb;simp
  ·have hb':(b==0)=false:=by simpa using hb
   rw[hb']
   simp only[Bool.false_eq_true,if_false,List.any_cons,hb,decide_false,Bool.false_or,←h1]
   split
   ·rename_i hm
    have:=beq_iff_eq.1 hm
    rw[this];simp
   ·rename_i hm
    have:¬Lib.indexByte l 0 = -1:=fun e=>hm (by rw[e];rfl)
    constructor
    ·rw[decide_eq_decide];omega
    ·omega
theorem Hz (l:List UInt8) (hl:l.length<=1000000):Fun Tryz.prog G0 149 [.str l,.str [0]] (qe (l.any fun b=>decide (b=0))) 0:=by
 have h:=(U9 l).1
 refine fon Tryz.func149 ?_;dsimp only[Tryz.f149]
 push_cast -dsimp
 refine cl (uH l) ?_;push_cast -dsimp
 exact dn (by push_cast -dsimp [zb,za,CLe,ze,h])
def VY (s:List UInt8):Bool:=!decide (s = [])&&decide (s.length<=4095)&&!(s.any fun b=>decide (b=0))
theorem zbi (s:List UInt8) (hs:s.length<=1000000):Fun Tryz.prog G0 184 [.str s] (qe (VY s)) 0:=by
 have h:=Hz s hs
 by_cases h1:s = []
 ·refine fon Tryz.func184 ?_;dsimp only[Tryz.f184]
  push_cast -dsimp [h1]
  exact ⟨[],rfl,rfl,by push_cast -dsimp [zb,za,CLe,ze];simp[VY,h1]⟩
 ·by_cases h2:s.length<=4095
  ·have h2':(s.length:Int)<=4095:=by omega
   refine fon Tryz.func184 ?_;dsimp only[Tryz.f184]
   push_cast -dsimp [h1,h2']
   refine cl (h) ?_;push_cast -dsimp
   exact ⟨[],rfl,rfl,by push_cast -dsimp [zb,za,CLe,ze];simp[VY,h1,h2]⟩
  ·have h2':¬(s.length:Int)<=4095:=by omega
   refine fon Tryz.func184 ?_;dsimp only[Tryz.f184]
   push_cast -dsimp [h1,h2']
   exact ⟨[],rfl,rfl,by push_cast -dsimp [zb,za,CLe,ze];simp[VY,h1,h2]⟩
end
end Go.Proofs.YtaipngaejfndgaaGreatDoor.Vcg
section
namespace Go.Proofs.YtaipngaejfndgaaGreatDoor.QuotePlain
abbrev Bs:=List UInt8
def good (c:UInt8):Bool:=decide (32<=c.toNat/\c.toNat<=126/\c.toNat≠34/\c.toNat≠92)
def zjp:Bs:=[48,49,50,51,52,53,54,55,56,57,97,98,99,100,101,102]
def Hn (n:Nat):UInt8:=zjp.getD n 0
def qb (c:UInt8):Bs:=if good c then [c] else [92,120,Hn (c.toNat / 16),Hn (c.toNat % 16)]
def mid (l:Bs):Bs:=l.flatMap qb
def zN (l:Bs):Bs:=34 :: (mid l++[34])
def zo6 (l:Bs):Bool:=decide (l≠[])&&l.all fun c=>decide (33<=c.toNat/\c.toNat<=126/\c.toNat≠34)
def zmh (c:UInt8):Nat:=(zjp.findIdx? (·==c)).getD 16
def zim:Bs->UInt8×Nat
 | []=>(0,0)
 | c :: r =>
  if c≠92 then (if good c then (c,1) else (0,0))
  else match r with
   | x :: a :: b :: _=>if x=120/\zmh a<16/\zmh b<16/\good (UInt8.ofNat (zmh a*16+zmh b))=false then (UInt8.ofNat (zmh a*16+zmh b),4) else (0,0)
   | _=>(0,0)
theorem zeX {p:UInt8->Bool} (h:(List.range 256).all (fun n=>p (UInt8.ofNat n))=true) (c:UInt8):p c=true:=by
 have h1:=List.all_eq_true.1 h c.toNat (List.mem_range.2 c.toNat_lt)
 simpa using h1
def zmu:Nat->Bs->Option (Bs×Nat)
 | 0,_=>none
 | _+1,[]=>none
 | f+1,c :: r=>if c=34 then some ([],1) else if (zim (c :: r)).2=0 then none else (zmu f ((c :: r).drop (zim (c :: r)).2)).map fun x=>((zim (c :: r)).1 :: x.1,(zim (c :: r)).2+x.2)
def body (l:Bs):Option (Bs×Nat):=zmu (l.length+1) l
def qtd:Bs->Option (Bs×Nat)
 | []=>none
 | c :: r=>if c=34 then (body r).map fun x=>(x.1,x.2+1) else none
def unq (l:Bs):Option Bs:=match qtd l with | some (t,n)=>if n=l.length then some t else none | none=>none
end Go.Proofs.YtaipngaejfndgaaGreatDoor.QuotePlain
end
section
namespace Go.Proofs.YtaipngaejfndgaaGreatDoor.QuotePlain
def okw (w:Bs):Bool:=(unq w).isSome||zo6 w
def cut:Bs->Bs->Bool->Option (List Bs)
 | [],w,_=>if okw w then some [w] else none
 | c :: r,w,i=>if c=32/\i=false then (if okw w then (cut r [] i).map (w :: ·) else none) else cut r (w++[c]) (if c=34 then !i else i)
end Go.Proofs.YtaipngaejfndgaaGreatDoor.QuotePlain
end
section
namespace Go.Proofs.YtaipngaejfndgaaGreatDoor.QuotePlain
def F (q:List Bs):Bs:=q.flatMap (·++[32])
end Go.Proofs.YtaipngaejfndgaaGreatDoor.QuotePlain
end
namespace Go.Proofs.YtaipngaejfndgaaGreatDoor.Vcg
section
structure OpV where
 kind:Int
 slot:Int
 a:List UInt8
 b:List UInt8
 d:List UInt8
deriving DecidableEq,Inhabited
def Gb (k:Int):Bool:=decide (k=3)||decide (k=7)||decide (k=9)||decide (k=10)
def zpl (k:Int):Bool:=decide (k=2)||decide (k=3)||decide (k=5)||decide (k=6)
end
section
open CA CB
open Go.RowKit
def opL (o:OpV):List C:=[.sc (.int .i64 o.kind),.sc (.int .i64 o.slot),.str o.a,.str o.b,.str o.d]
def zg0 (o:OpV):Bool:=decide (1<=o.kind)&&decide (o.kind<=10)&&qc o.a&&(if Gb o.kind then decide (1<=o.slot)&&decide (o.slot<=1073741824) else decide (o.slot=0))&&(if zpl o.kind then qc o.b else decide (o.b = []))
 && (if o.kind=4 then VY o.d else decide (o.d = []))&&(!decide (o.kind=6)||(!kp o.a o.b&&!kp o.b o.a))
def zjx (o:OpV):Prop:=o.a.length<=1000000/\o.b.length<=1000000/\o.d.length<=1000000
theorem zer (k s:Int) (a b d:List UInt8) (hs:zjx ⟨k,s,a,b,d⟩):Fun Tryz.prog G1 159 [.agg (opL ⟨k,s,a,b,d⟩)] (qe (zg0 ⟨k,s,a,b,d⟩)) 0:=by
 have hs1:a.length<=1000000:=hs.1
 have hs2:b.length<=1000000:=hs.2.1
 have hs3:d.length<=1000000:=hs.2.2
 have h1:=(NR a (by omega)).glob0 (G':=G1)
 have h2:=(NR b (by omega)).glob0 (G':=G1)
 have h3:=(zbi d (by omega)).glob0 (G':=G1)
 have h4:=(ko a b (by omega)).glob0 (G':=G1)
 have h5:=(ko b a (by omega)).glob0 (G':=G1)
 unfold opL
 by_cases hk1:k<1
 ·have:¬1<=k:=by omega
  refine fon Tryz.func159 ?_;dsimp only[Tryz.f159]
  push_cast -dsimp [hk1]
  exact ⟨[],rfl,rfl,by push_cast -dsimp [zb,za,CLe,ze];simp[zg0,this]⟩
 by_cases hk2:10<k
 ·have:¬k<=10:=by omega
  refine fon Tryz.func159 ?_;dsimp only[Tryz.f159]
  push_cast -dsimp [hk1,hk2]
  exact ⟨[],rfl,rfl,by push_cast -dsimp [zb,za,CLe,ze];simp[zg0,this]⟩
 cases hp:qc a with
 | false =>
  rw[hp]at h1
  refine fon Tryz.func159 ?_;dsimp only[Tryz.f159]
  push_cast -dsimp [hk1,hk2]
  refine cl (h1) ?_;push_cast -dsimp
  exact ⟨[],rfl,rfl,by push_cast -dsimp [zb,za,CLe,ze];simp[zg0,hp]⟩
 | true =>
  rw[hp]at h1
  have hk:k=1∨k=2∨k=3∨k=4∨k=5∨k=6∨k=7∨k=8∨k=9∨k=10:=by omega
  clear hk1 hk2 hs hs1 hs2 hs3
  rcases hk with rfl | rfl | rfl | rfl | rfl | rfl | rfl | rfl | rfl | rfl
  all_goals
   refine fon Tryz.func159 ?_;dsimp only[Tryz.f159]
   push_cast -dsimp
   refine cl (h1) ?_;push_cast -dsimp
   repeat' (first
    | (refine call h2 ?_;push_cast -dsimp)
    | (refine zaf h2 ?_;push_cast -dsimp)
    | (refine call h3 ?_;push_cast -dsimp)
    | (refine zaf h3 ?_;push_cast -dsimp)
    | (refine call h4 ?_;push_cast -dsimp)
    | (refine zaf h4 ?_;push_cast -dsimp)
    | (refine call h5 ?_;push_cast -dsimp)
    | (refine zaf h5 ?_;push_cast -dsimp)
    | (refine br (fun h=>?_) (fun h=>?_)<;>push_cast -dsimp [h])
    | (refine ⟨[],rfl,rfl,?_⟩;push_cast -dsimp [zb,za,CLe,ze];clear h1 h2 h3 h4 h5;simp_all [zg0,Gb,zpl]<;>omega))
end
section
structure zT where
 dir:Int
 name:List UInt8
 ino:Int
deriving DecidableEq,Inhabited
structure jZ where
 slot:Int
 ino:Int
 content:Bool
 data:List UInt8
deriving DecidableEq,Inhabited
structure qd where
 fs:FsV
 kept:List jZ
 pool:List zn
deriving DecidableEq,Inhabited
def zU:zT:=⟨0,[],0⟩
abbrev XP (es:List zK):Prop:=jE jk zK.name es
def X8 (n:List UInt8) (es:List zK):Bool:=Qe zK.name n es
def zC (n:List UInt8) (es:List zK):Int:=match jT zK.name n es with | some e=>e.ino | none=>0
def qL (n:List UInt8) (es:List zK):List zK:=Ya zK.name n es
def z7 (n:List UInt8) (i:Int) (es:List zK):List zK:=Qh jk zK.name ⟨n,i⟩ (Ya zK.name n es)
def atW (xs:List zn):List (List UInt8)->zT->zT×Int
 | [],s=>(s,0)
 | n :: r,s=>if s.ino=0 then (zU,1) else if (zf s.ino xs).kind≠2 then (zU,3) else atW xs r ⟨(zf s.ino xs).ino,n,zC n (zf s.ino xs).es⟩
def atV (f:FsV) (p:List UInt8):zT×Int:=if Jw p then atW f.xs (zg p) ⟨0,[],1⟩ else (zU,9)
def j3 (f:FsV) (n b:Int):Bool:=decide (f.xs.length+n<=f.maxI)&&decide (zV f.xs+b<=f.maxB)
def Y2 (d:Int) (es:List zK->List zK) (xs:List zn):List zn:=jq { zf d xs with es:=es (zf d xs).es } xs
def Un (f:FsV) (s:zT) (k:Int) (t:List UInt8):FsV:={ f with next:=f.next+1,xs:=jq ⟨f.next,k,1,t,if k=2 then s.dir else 0,[]⟩ (Y2 s.dir (z7 s.name f.next) f.xs) }
def Yx (f:FsV) (s:zT) (k:Int) (t:List UInt8):FsV×Int:=
 if may s.name then (if j3 f 1 (if k=1 then (t.length:Int) else 0) then (Un f s k t,0) else (f,8)) else (f,9)
def zjW (f:FsV) (s:zT):FsV:=
 if (zf s.ino f.xs).links-1=0 then { f with xs:=qS s.ino (Y2 s.dir (qL s.name) f.xs) }
 else { f with xs:=jq { zf s.ino f.xs with links:=(zf s.ino f.xs).links-1 } (Y2 s.dir (qL s.name) f.xs) }
def zpA (f:FsV) (s:zT) (i:Int):FsV:={ f with xs:=jq { zf i f.xs with links:=(zf i f.xs).links+1 } (Y2 s.dir (z7 s.name i) f.xs) }
def zpN (f:FsV) (a b:zT):FsV:=
 let g:=Y2 b.dir (z7 b.name a.ino) (Y2 a.dir (qL a.name) f.xs)
 if (zf a.ino g).kind=2 then { f with xs:=jq { zf a.ino g with parent:=b.dir } g } else { f with xs:=g }
def zqw (f:FsV) (i:Int) (t:List UInt8):FsV:={ f with xs:=jq { zf i f.xs with data:=t } f.xs }
def zkz (f:FsV) (i:Int) (t:List UInt8):FsV×Int:=
 if j3 f 0 ((t.length:Int)-(zf i f.xs).data.length) then (zqw f i t,0) else (f,8)
def zqT (n:Int) (ks:List jZ):Bool:=Qe jZ.slot n ks
def zoP (k:jZ) (ks:List jZ):List jZ:=Qh zo9 jZ.slot k ks
def zqj (w:qd) (n:Int) (s:zT):qd×Int:=
 if zqT n w.kept then (w,13)
 else (⟨zjW w.fs s,zoP ⟨n,s.ino,false,[]⟩ w.kept,if (zf s.ino w.fs.xs).links=1 then jq { zf s.ino w.fs.xs with links:=0,parent:=0 } w.pool else w.pool⟩,0)
def Uk (w:qd) (n i:Int):qd×Int:=
 if zqT n w.kept then (w,13) else ({ w with kept:=zoP ⟨n,i,true,(zf i w.fs.xs).data⟩ w.kept },0)
def isV (f:FsV) (p:List UInt8) (want:Bool):zT×zn×Int:=
 let a:=atV f p
 (a.1,zf a.1.ino f.xs,if a.2≠0 then a.2 else if want&&!zw a.1.ino f.xs then 1 else if !want&&zw a.1.ino f.xs then 2 else 0)
def Y6 (f:FsV) (p:List UInt8):zn×Int:=
 let a:=isV f p true
 (a.2.1,if a.2.2≠0 then a.2.2 else if a.2.1.kind=2 then 4 else if a.2.1.kind=3 then 9 else 0)
def qh (w:qd) (p:List UInt8) (k:Int) (t:List UInt8):qd×Int:=
 if (isV w.fs p false).2.2≠0 then (w,(isV w.fs p false).2.2) else ({ w with fs:=(Yx w.fs (isV w.fs p false).1 k t).1 },(Yx w.fs (isV w.fs p false).1 k t).2)
def zk0 (w:qd) (o:OpV):qd×Int:=
 if (Y6 w.fs o.a).2≠0 then (w,(Y6 w.fs o.a).2) else qh w o.b 1 (Y6 w.fs o.a).1.data
def ziz (w:qd) (o:OpV):qd×Int:=
 if (Y6 w.fs o.a).2≠0 then (w,(Y6 w.fs o.a).2)
 else if (Y6 w.fs o.b).2≠0 then (w,(Y6 w.fs o.b).2)
 else if (Y6 w.fs o.a).1.ino=(Y6 w.fs o.b).1.ino then (w,9)
 else if (Uk w o.slot (Y6 w.fs o.b).1.ino).2≠0 then (w,(Uk w o.slot (Y6 w.fs o.b).1.ino).2)
 else if (zkz w.fs (Y6 w.fs o.b).1.ino (Y6 w.fs o.a).1.data).2≠0 then (w,(zkz w.fs (Y6 w.fs o.b).1.ino (Y6 w.fs o.a).1.data).2)
 else ({ (Uk w o.slot (Y6 w.fs o.b).1.ino).1 with fs:=(zkz w.fs (Y6 w.fs o.b).1.ino (Y6 w.fs o.a).1.data).1 },0)
def zkt (w:qd) (o:OpV):qd×Int:=
 let a:=isV w.fs o.a true
 if a.2.2≠0 then (w,a.2.2) else if a.2.1.kind=2 then (w,11)
 else if (isV w.fs o.b false).2.2≠0 then (w,(isV w.fs o.b false).2.2)
 else ({ w with fs:=zpA w.fs (isV w.fs o.b false).1 a.2.1.ino },0)
def zmF (w:qd) (o:OpV):qd×Int:=
 if (isV w.fs o.a true).2.2≠0 then (w,(isV w.fs o.a true).2.2)
 else if (isV w.fs o.b false).2.2≠0 then (w,(isV w.fs o.b false).2.2)
 else ({ w with fs:=zpN w.fs (isV w.fs o.a true).1 (isV w.fs o.b false).1 },0)
def zfQ (w:qd) (o:OpV):qd×Int:=
 let a:=isV w.fs o.a true
 if a.2.2≠0 then (w,a.2.2) else if a.2.1.es≠[] then (w,5) else zqj w o.slot a.1
def doV (w:qd) (o:OpV):qd×Int:=
 if !zg0 o then (w,12)
 else if o.kind=1 then qh w o.a 2 []
 else if o.kind=2 then zk0 w o
 else if o.kind=3 then ziz w o
 else if o.kind=4 then qh w o.a 3 o.d
 else if o.kind=5 then zkt w o
 else if o.kind=6 then zmF w o
 else zfQ w o
def jF (ks:List jZ):Int:=match ks.getLast? with | some k=>k.slot | none=>0
structure zr where
 w:qd
 ops:List OpV
 diags:List (List UInt8)
 status:Int
 slot:Int
deriving DecidableEq,Inhabited
def yh (w:qd):zr:=⟨w,[],[],0,jF w.kept⟩
def xm (d:zr) (o:OpV):OpV:={ o with slot:=if o.kind=3∨o.kind=7 then d.slot+1 else 0 }
def zi3 (d:zr) (o:OpV):zr×Int:=
 if 7<o.kind then (d,12)
 else if (doV d.w (xm d o)).2≠0 then (d,(doV d.w (xm d o)).2)
 else (⟨(doV d.w (xm d o)).1,d.ops++[xm d o],d.diags,d.status,if 0<(xm d o).slot then (xm d o).slot else d.slot⟩,0)
end
section
open CA CB
open Go.RowKit
theorem uV (a b:List UInt8):Fun Tryz.prog G0 221 [.str a,.str b] (.sc (.int .i64 (Lib.compareBytes a b))) 0:=by
 refine Fun.wrap (by kernel_rfl) fun R vs h=>?_
 obtain ⟨v1,us1,rfl,h1,h⟩:=zd.1 h
 obtain ⟨v2,us2,rfl,h2,h⟩:=zd.1 h
 rw[zh]at h
 subst h
 rw[zE]at h1 h2
 subst h1 h2
 refine (Tryz.strings_Compare ⟨a.toArray⟩ ⟨b.toArray⟩ R.w).mono ?_
 rintro e w' ⟨rfl,rfl⟩
 exact ⟨_,rfl,Below.refl _ _,fun R' _=>zj.2 (by simp)⟩
section
variable {G:zk}
theorem vT (e:zK) (n:List UInt8):Fun Tryz.prog G 220 [.agg (kV e),.str n] (.sc (.int .i64 (Lib.compareBytes e.name n))) 0:=by
 have h:=(uV e.name n).glob0 (G':=G)
 refine fon Tryz.func220 ?_;dsimp only[Tryz.f220]
 push_cast -dsimp
 refine cl (h) ?_;push_cast -dsimp
 exact dn
theorem N6 (es:List zK) (n:List UInt8) (hl:es.length<=100000) (hR:jE jk zK.name es) :
  Fun Tryz.prog G 219 [.sl 2 (zG es),.str n,.clo (.func 220) [] []] (.tup [.sc (.int .i64 (jn jk zK.name n es:Nat)),.sc (.bool (Qe zK.name n es))]) 0:=by
 refine fon Tryz.func219 ?_;dsimp only[Tryz.f219]
 push_cast -dsimp
 refine loop (fun p:Nat×Nat=>⟨[(0,.sl 2 (zG es)),(1,.str n),(2,.clo (.func 220) [] []),(8,.sc (.int .i64 (es.length:Nat))),(9,.sc (.int .i64 p.1)),(10,.sc (.int .i64 p.2))],[],0,0⟩)
  (fun p=>p.1<=p.2/\p.2<=es.length/\(∀ t (h:t<es.length),t<p.1->(jk).lt (zK.name es[t]) n=true)/\∀ t (h:t<es.length),p.2<=t->(jk).lt (zK.name es[t]) n=false) (fun p=>p.2-p.1) (0,es.length) ⟨Nat.zero_le _,Nat.le_refl _,fun t _ h=>by (simp at h),fun t h h'=>by (dsimp only at h';omega)⟩ ?_ ?_
 ·exact wk (by push_cast -dsimp [zb,za,CLe,ze,List.length_map])
 ·rintro ⟨i,j⟩ ⟨h1,h2,h3,h4⟩
  dsimp only at h1 h2 h3 h4 ⊢
  by_cases h:i<j
  ·obtain ⟨m,hm⟩:∃ m,m=(i+j) / 2:=⟨_,rfl⟩
   have hmi:((i:Int)+(j:Int)) / 2=(m:Int):=by omega
   have hml:m<es.length:=by omega
   have hat:=jx es m hml
   have hlt:=(zc0 es[m].name n).to_iff
   push_cast -dsimp [h,hmi,hat]
   repeat refine an ?_
   refine cl ((vT es[m] n)) ?_;push_cast -dsimp
   cases hc:(jk).lt (zK.name es[m]) n with
   | true =>
    have hcv:(Lib.compareBytes es[m].name n<0)=True:=eq_true (hlt.mpr hc)
    push_cast -dsimp [hcv]
    repeat refine an ?_
    refine ⟨(m+1,j),⟨by omega,h2,fun t ht hlt2=>?_,h4⟩,by dsimp only;omega,wk⟩
    dsimp only at hlt2
    rcases Nat.lt_or_ge t m with q | q
    ·exact (jk).tr ((List.pairwise_iff_getElem.1 hR) t m ht hml q) hc
    ·have:t=m:=by omega
     subst this;exact hc
   | false =>
    have hcv:(Lib.compareBytes es[m].name n<0)=False:=eq_false (fun e=>by have h7:(jk).lt (zK.name es[m]) n=true:=hlt.mp e;rw[hc]at h7;cases h7)
    push_cast -dsimp [hcv]
    repeat refine an ?_
    refine ⟨(i,m),⟨by omega,by omega,h3,fun t ht hge=>?_⟩,by dsimp only;omega,wk⟩
    dsimp only at hge
    rcases Nat.lt_or_ge m t with q | q
    ·cases h9:(jk).lt (zK.name es[t]) n with
     | false=>rfl
     | true=>have:=(jk).tr ((List.pairwise_iff_getElem.1 hR) m t hml ht q) h9;rw[hc]at this;cases this
    ·have:t=m:=by omega
     subst this;exact hc
  ·have hij:i=j:=by omega
   subst hij
   have hrk:=H8 (o:=jk) (key:=zK.name) n es i h2 h3 h4
   push_cast -dsimp [h]
   refine br (fun hx=>?_) (fun hx=>?_)
   ·have hx:i<es.length:=by simpa using hx
    have hat:=jx es i hx
    have hh:=zkj n hR hrk hx
    push_cast -dsimp [hx,hat]
    repeat refine an ?_
    refine cl ((vT es[i] n)) ?_;push_cast -dsimp
    have hcv:decide (Lib.compareBytes es[i].name n=0)=Qe zK.name n es:=by
     rw[hh]
     exact decide_eq_decide.2 (zeS es[i].name n).to_iff
    push_cast -dsimp [hcv]
    exact dn (by push_cast -dsimp [zb,za,CLe,ze,hrk])
   ·have hx:¬i<es.length:=by simpa using hx
    have hh:=ziw n hR (by omega)
    push_cast -dsimp [hx]
    exact dn (by push_cast -dsimp [zb,za,CLe,ze,hrk,hh])
theorem zdJ (es:List zK) (n:List UInt8) (hl:es.length<=100000) (hR:XP es):Fun Tryz.prog G 179 [.sl 2 (zG es),.str n] (.tup [.sc (.int .i64 (jn jk zK.name n es:Nat)),.sc (.bool (Qe zK.name n es))]) 0:=by
 refine fon Tryz.func179 ?_;dsimp only[Tryz.f179]
 push_cast -dsimp
 refine cl (N6 es n hl hR) ?_;push_cast -dsimp
 exact dn
theorem Nu (es:List zK) (n:List UInt8) (hl:es.length<=100000) (hR:XP es):Fun Tryz.prog G 151 [.sl 2 (zG es),.str n] (.tup [.sc (.int .i64 (zC n es)),.sc (.bool (X8 n es))]) 0:=by
 obtain ⟨_,_,h3,h4⟩:=zat n hR
 have h:=zdJ (G:=G) es n hl hR
 cases hh:Qe zK.name n es with
 | false =>
  have hf:zC n es=0:=by unfold zC;rw[(h4 hh).1]
  have he:X8 n es=false:=hh
  rw[hh]at h
  refine fon Tryz.func151 ?_;dsimp only[Tryz.f151]
  push_cast -dsimp
  refine cl (h) ?_;push_cast -dsimp
  exact dn (by push_cast -dsimp [zb,za,CLe,ze,hf,he])
 | true =>
  obtain ⟨hlt,_,g2,_⟩:=h3 hh
  have hf:zC n es=es[jn jk zK.name n es].ino:=by unfold zC;rw[g2]
  have he:X8 n es=true:=hh
  have hat:=jx es _ hlt
  rw[hh]at h
  refine fon Tryz.func151 ?_;dsimp only[Tryz.f151]
  push_cast -dsimp
  refine cl (h) ?_;push_cast -dsimp [hat]
  repeat refine an ?_
  exact dn (by push_cast -dsimp [zb,za,CLe,ze,hf,he])
end
end
section
open CA CB
open Go.RowKit
section
variable {G:zk}
theorem ji {es:List zK}:∀ r∈zG es,r.length=2:=fun r hr=>by
 obtain ⟨x,_,rfl⟩:=List.mem_map.1 hr;rfl
theorem qR {es:List zK}:jp (zG es):=fun r hr=>by
 obtain ⟨x,_,rfl⟩:=List.mem_map.1 hr;rfl
theorem yR {k c i:Nat} {rows:List (List C)} (hk:∀ r∈rows,r.length=k) (hi:i<=rows.length):(jG k rows c).take (i*k)=(rows.take i).flatten:=by
 have hf:=zB hk
 have h1:i*k<=rows.length*k:=Nat.mul_le_mul_right _ hi
 unfold jG
 rw[List.take_append_of_le_length (by omega),V6 hk]
theorem ziQ {es:List zK} {c r:Nat} {i:Int} (hr:r<es.length) :
  (jG 2 (zG es) c).take (r*2+1)++[C.sc (.int .i64 i)]++(jG 2 (zG es) c).drop (r*2+1+1)=jG 2 (zG (es.set r ⟨es[r].name,i⟩)) c:=by
 have hll:(zG es).length=es.length:=List.length_map ..
 have h:=yZ (c:=c) (row:=kV ⟨es[r].name,i⟩) (i:=r) ji rfl (show r<(zG es).length by omega)
 have e1:(zG es).set r (kV ⟨es[r].name,i⟩)=zG (es.set r ⟨es[r].name,i⟩):=by simp[List.map_set]
 rw[e1]at h
 rw[←h]
 have t0:=yR (c:=c) (i:=r) (ji (es:=es)) (by omega)
 have t1:=yR (c:=c) (i:=r+1) (ji (es:=es)) (by omega)
 have e2:((zG es).take (r+1)).flatten=((zG es).take r).flatten++kV es[r]:=by
  rw[List.take_add_one,jx es r hr];simp
 have e3:(jG 2 (zG es) c).take (r*2+1)=(jG 2 (zG es) c).take (r*2)++[C.str es[r].name]:=by
  have e4:(jG 2 (zG es) c).take (r*2+1)=((jG 2 (zG es) c).take ((r+1)*2)).take (r*2+1):=by rw[List.take_take,Nat.min_eq_left (by omega)]
  have hl0:((zG es).take r).flatten.length=r*2:=by
   rw[zB (k:=2) fun x hx=>ji x (List.mem_of_mem_take hx),List.length_take,hll,Nat.min_eq_left (by omega)]
  rw[e4,t1,e2,t0,List.take_append,hl0,List.take_of_length_le (by omega),show r*2+1-r*2=1 by omega]
  rfl
 rw[e3]
 simp
theorem zeE (es:List zK) (n:List UInt8) (i:Int) (hl:es.length<=90000) (hR:XP es) :
  Fun Tryz.prog G 257 [.sl 2 (zG es),.str n,.sc (.int .i64 i)] (.own 0 141 2 (zG (z7 n i es))) 1:=by
 obtain ⟨_,_,h3,h4⟩:=zat n hR
 have hll:(zG es).length=es.length:=List.length_map ..
 have hat:=zdJ (G:=G) es n (by omega) hR
 have hrl:=zgp (o:=jk) (key:=zK.name) n es
 refine foF (fun _=>[]) Tryz.func257 ?_;dsimp only[Tryz.f257]
 push_cast -dsimp
 refine cl (hat) ?_;push_cast -dsimp
 refine YF [] [] (zaE (zG es) ji qR (by omega)) rfl (by decide) (by decide) (by simp) (by push_cast -dsimp) (by push_cast -dsimp) (fun r bx' m hp=>?_)
 obtain ⟨rfl,⟨hne,c,h1,h2,rfl,rfl⟩ | ⟨he,⟨rfl,rfl⟩ | ⟨rfl,rfl⟩⟩⟩:=hp
 ·have hbl:=Qo ji h1
  have hre:∀ fp fo,C.reL fp fo (jG 2 (zG es) c)=jG 2 (zG es) c:=fun fp fo=>qC (qu qR)
  have hpos:=List.length_pos_iff.2 hne
  cases hh:Qe zK.name n es with
  | true =>
   obtain ⟨hlt,g1,g2,g3,g4⟩:=h3 hh
   have hset:z7 n i es=es.set (jn jk zK.name n es) ⟨n,i⟩:=g4 ⟨n,i⟩ rfl
   have hbs:=ziQ (c:=c) (i:=i) hlt
   rw[g1,←hset]at hbs
   have hwl:(z7 n i es).length=es.length:=by rw[hset,List.length_set]
   push_cast -dsimp [hh,hre]
   rw[hbs]
   refine ⟨by omega,by omega,by rw[hbl];omega,[(1,141,2,zG (z7 n i es),c)],[.inl 0],jg rfl (by omega) (by rw[List.length_map,hwl];omega) h2 ji qR,rfl,rfl,?_⟩
   rw[hll,←hwl]
   push_cast -dsimp [zb,za,CLe,ze,show (zG (z7 n i es)).length=(z7 n i es).length from List.length_map ..]
  | false =>
   have hw:z7 n i es=es.take (jn jk zK.name n es)++⟨n,i⟩ :: es.drop (jn jk zK.name n es):=by
    unfold z7
    rw[(h4 hh).2.1]
    exact (h4 hh).2.2 ⟨n,i⟩ rfl
   have hset:zG (z7 n i es)=(zG es).take (jn jk zK.name n es)++kV ⟨n,i⟩ :: (zG es).drop (jn jk zK.name n es):=by rw[hw];simp
   have hsl:(zG (z7 n i es)).length=(zG es).length+1:=by rw[hset];simp;omega
   push_cast -dsimp [hh,hre]
   refine YF [1] [0] (vm (e:=141) (zG es) (kV ⟨n,i⟩) (jn jk zK.name n es) c ji rfl qR rfl (by omega) (by omega) h1 h2) rfl (by decide) (by decide) (by simp) (by push_cast -dsimp) (by push_cast -dsimp [hre]) (fun r bx' m hp=>?_)
   rw[←hset]at hp
   have hre2:∀ fp fo c,C.reL fp fo (jG 2 (zG (z7 n i es)) c)=jG 2 (zG (z7 n i es)) c:=fun fp fo c=>qC (qu qR)
   obtain ⟨rfl,c',g1,g2,⟨rfl,rfl⟩ | ⟨rfl,rfl⟩⟩:=hp
   ·push_cast -dsimp [hre2,hre]
    exact ⟨[(1,141,2,zG (z7 n i es),c')],[.inl 1],jg rfl (by omega) g1 g2 ji qR,rfl,rfl,by push_cast -dsimp [zb,za,CLe,ze]⟩
   ·have hra:∀ fp fo,C.reL fp fo (List.replicate (c*2) .any)=List.replicate (c*2) .any:=fun fp fo=>qC (by simp[List.all_replicate,C.stayB])
    push_cast -dsimp [hre2,hre,hra]
    exact ⟨[(2,141,2,zG (z7 n i es),c')],[.inl 1],jg rfl (by omega) g1 g2 ji qR,rfl,rfl,by push_cast -dsimp [zb,za,CLe,ze]⟩
 ·have he:es = []:=by simpa using he
  have hh:Qe zK.name n es=false:=by rw[he];rfl
  have hr0:jn jk zK.name n es=0:=by rw[he];rfl
  have hset:z7 n i es = [⟨n,i⟩]:=by rw[he];rfl
  push_cast -dsimp [hh,hr0]
  refine YF [] [0] (zic (e:=141) (kV ⟨n,i⟩) rfl rfl) rfl (by decide) (by decide) (by simp) (by push_cast -dsimp) (by push_cast -dsimp) (fun r bx' m hp=>?_)
  obtain ⟨rfl,c,g1,g2,rfl,rfl⟩:=hp
  have hre:∀ fp fo,C.reL fp fo (jG 2 [kV ⟨n,i⟩] c)=jG 2 [kV ⟨n,i⟩] c:=fun fp fo=>qC (qu (qR (es:=[⟨n,i⟩])))
  push_cast -dsimp [hre]
  exact ⟨[(0,141,2,zG [⟨n,i⟩],c)],[.inl 1],jg rfl (by omega) g1 g2 ji qR,rfl,rfl,by push_cast -dsimp [zb,za,CLe,ze,hset]⟩
 ·have he:es = []:=by simpa using he
  have hh:Qe zK.name n es=false:=by rw[he];rfl
  have hr0:jn jk zK.name n es=0:=by rw[he];rfl
  have hset:z7 n i es = [⟨n,i⟩]:=by rw[he];rfl
  push_cast -dsimp [hh,hr0]
  refine YF [0] [0] (vm (e:=141) [] (kV ⟨n,i⟩) 0 0 (fun r hr=>by cases hr) rfl (fun r hr=>by cases hr) rfl (by simp) (by simp) (by simp) (by simp)) rfl (by decide) (by decide) (by simp) (by push_cast -dsimp) (by push_cast -dsimp [jG]) (fun r bx' m hp=>?_)
  obtain ⟨rfl,c,g1,g2,hp⟩:=hp
  have hre:∀ fp fo,C.reL fp fo (jG 2 [kV ⟨n,i⟩] c)=jG 2 [kV ⟨n,i⟩] c:=fun fp fo=>qC (qu (qR (es:=[⟨n,i⟩])))
  rcases hp with ⟨rfl,rfl⟩ | ⟨rfl,rfl⟩
  ·push_cast -dsimp [hre]
   exact ⟨[(0,141,2,zG [⟨n,i⟩],c)],[.inl 1],jg rfl (Nat.lt_of_lt_of_le (Nat.zero_lt_succ _) g1) g1 g2 ji qR,rfl,rfl,by push_cast -dsimp [zb,za,CLe,ze,hset]⟩
  ·push_cast -dsimp [hre]
   exact ⟨[(1,141,2,zG [⟨n,i⟩],c)],[.inl 1],jg rfl (Nat.lt_of_lt_of_le (Nat.zero_lt_succ _) g1) g1 g2 ji qR,rfl,rfl,by push_cast -dsimp [zb,za,CLe,ze,hset]⟩
end
end
section
open CA CB
open Go.RowKit
section
variable {G:zk}
end
end
section
theorem HC (n:Int) (xs:List zn):zw n xs=(XX n xs).isSome:=by
 unfold zw XX
 induction xs with
 | nil=>rfl
 | cons y r ih =>
  rw[List.any_cons,List.find?_cons]
  cases h:(y.ino==n) with
  | true=>rfl
  | false=>rw[Bool.false_or,ih]
theorem zhK {n:Int} {xs:List zn} {x:zn} (h:XX n xs=some x):x.ino=n/\x∈xs:=by
 unfold XX at h
 have h1:=List.find?_some h
 exact ⟨by simpa using h1,List.mem_of_find?_eq_some h⟩
theorem v6 (n:Int) (x:zn):∀ xs:List zn,(∀ z∈xs,z.ino≠x.ino)->XX n (Zb x xs)=if x.ino=n then some x else XX n xs
 | [],_=>by
  unfold Zb XX
  by_cases h:x.ino=n<;>simp[h]
 | y :: r,hn=>by
  have hy:=hn y List.mem_cons_self
  have ih:=v6 n x r fun z hz=>hn z (List.mem_cons_of_mem _ hz)
  unfold XX at ih ⊢
  unfold Zb
  split
  ·by_cases h:x.ino=n
   ·simp[h]
   ·simp[h,List.find?_cons]
  ·by_cases h:x.ino=n
   ·rw[if_pos h]at ih ⊢
    have hyn:(y.ino==n)=false:=by simp;omega
    rw[List.find?_cons,hyn];exact ih
   ·rw[if_neg h]at ih ⊢
    rw[List.find?_cons,List.find?_cons,ih]
theorem My (n m:Int):∀ xs:List zn,XX n (qS m xs)=if n=m then none else XX n xs
 | []=>by unfold XX qS;simp
 | y :: r=>by
  have ih:=My n m r
  by_cases hy:y.ino=m
  ·rw[JQ hy,ih]
   by_cases h:n=m
   ·rw[if_pos h,if_pos h]
   ·rw[if_neg h,if_neg h]
    have hyn:(y.ino==n)=false:=by simp;omega
    unfold XX
    rw[List.find?_cons,hyn]
  ·rw[JT hy]
   unfold XX at ih ⊢
   rw[List.find?_cons,List.find?_cons,ih]
   by_cases h:n=m
   ·have hyn:(y.ino==n)=false:=by simp;omega
    simp only[hyn,if_pos h]
   ·simp only[if_neg h]
theorem zkP {n:Int} {xs:List zn}:∀ z∈qS n xs,z.ino≠n:=fun z hz=>by
 unfold qS at hz
 simpa using (List.mem_filter.1 hz).2
theorem yK (n:Int) (x:zn) (xs:List zn):XX n (jq x xs)=if x.ino=n then some x else XX n xs:=by
 unfold jq
 rw[v6 n x _ zkP,My]
 by_cases h:x.ino=n
 ·rw[if_pos h,if_pos h]
 ·rw[if_neg h,if_neg h,if_neg (fun e=>h e.symm)]
theorem QL (n:Int) (x:zn) (xs:List zn):zw n (jq x xs)=(decide (x.ino=n)||zw n xs):=by
 rw[HC,yK,HC]
 by_cases h:x.ino=n<;>simp[h]
def vn (g:zn->Nat) (xs:List zn):Nat:=(xs.map g).sum
theorem N8 (g:zn->Nat) {n:Int}:∀ {xs:List zn},z8 xs->vn g xs=vn g (qS n xs)+(match XX n xs with | some x=>g x | none=>0)
 | [],_=>rfl
 | y :: r,hR=>by
  obtain ⟨h1,h2⟩:=Jt.1 hR
  have ih:=N8 g (n:=n) h2
  unfold vn at ih ⊢
  by_cases hy:y.ino=n
  ·have hb:zw n r=false:=xx fun z hz=>by have:=h1 z hz;omega
   have hg:XX n (y :: r)=some y:=by unfold XX;rw[List.find?_cons_of_pos (by simpa using hy)]
   rw[hg,JQ hy,Hl hb]
   simp;omega
  ·have hg:XX n (y :: r)=XX n r:=by unfold XX;rw[List.find?_cons_of_neg (by simpa using hy)]
   rw[hg,JT hy]
   simp only[List.map_cons,List.sum_cons]
   omega
theorem yY (g:zn->Nat) (x:zn):∀ xs:List zn,vn g (Zb x xs)=vn g xs+g x
 | []=>by unfold Zb vn;simp
 | y :: r=>by
  have ih:=yY g x r
  unfold vn at ih ⊢
  unfold Zb
  split
  ·simp;omega
  ·simp only[List.map_cons,List.sum_cons];omega
theorem Z3 (g:zn->Nat) {x:zn} {xs:List zn} (hR:z8 xs):vn g (jq x xs)+(match XX x.ino xs with | some y=>g y | none=>0)=vn g xs+g x:=by
 unfold jq
 rw[yY,N8 g (n:=x.ino) hR]
 omega
end
section
def VU (n:Int) (x:zn):Nat:=(x.es.filter fun e=>decide (e.ino=n)).length
def Gl (n:Int) (xs:List zn):Nat:=vn (VU n) xs
structure FsI (f:FsV):Prop where
 rises:z8 f.xs
 ino:∀ x∈f.xs,1<=x.ino/\x.ino<f.next
 kind:∀ x∈f.xs,x.kind=1∨x.kind=2∨x.kind=3
 es:∀ x∈f.xs,XP x.es
 file:∀ x∈f.xs,x.kind≠2->x.es = []
 led:∀ x∈f.xs,∀ e∈x.es,zw e.ino f.xs=true
 links:∀ x∈f.xs,x.links=(Gl x.ino f.xs:Int)
 root:zw 1 f.xs=true
 base:(zf 1 f.xs).kind=2
 bare:Gl 1 f.xs=0
theorem zq {n:Int} {xs:List zn} (h:zw n xs=true):XX n xs=some (zf n xs)/\zf n xs∈xs/\(zf n xs).ino=n:=by
 rw[HC]at h
 obtain ⟨x,hx⟩:=Option.isSome_iff_exists.1 h
 have e:zf n xs=x:=by unfold zf;rw[hx];rfl
 obtain ⟨h1,h2⟩:=zhK hx
 rw[e]
 exact ⟨hx,h2,h1⟩
theorem Jg {n:Int} {xs:List zn} (h:zw n xs=false):XX n xs=none/\zf n xs=NZ:=by
 have h1:=kT h
 exact ⟨h1,by unfold zf;rw[h1];rfl⟩
theorem Qw (n:Int) (x:zn) (xs:List zn):zf n (jq x xs)=if x.ino=n then x else zf n xs:=by
 unfold zf
 rw[yK]
 split<;>rfl
theorem Jm {x z:zn} {xs:List zn}:z∈jq x xs↔z=x∨(z∈xs/\z.ino≠x.ino):=by
 unfold jq
 rw[HM]
 unfold qS
 simp
theorem JM {x:zn} {xs:List zn} (h:x∈xs):zw x.ino xs=true:=by
 unfold zw
 exact List.any_eq_true.2 ⟨x,h,by simp⟩
theorem yV {α κ:Type} [DecidableEq κ] {o:zkH κ} {key:α->κ} (p:α->Bool) (x:α):∀ xs:List α,((Qh o key x xs).filter p).length=(xs.filter p).length+if p x then 1 else 0
 | []=>by unfold Qh;cases h:p x<;>simp[h]
 | y :: r=>by
  have ih:=yV (o:=o) (key:=key) p x r
  unfold Qh
  split
  ·cases h:p x<;>simp[h,List.filter_cons]
  ·rw[List.filter_cons,List.filter_cons]
   cases h:p y
   ·simpa using ih
   ·simp[ih];omega
theorem Yq {α κ:Type} [DecidableEq κ] {key:α->κ} {n:κ} {xs:List α} {e:α} (h:jT key n xs=some e):key e=n/\e∈xs:=by
 unfold jT at h
 exact ⟨by have:=List.find?_some h;simpa using this,List.mem_of_find?_eq_some h⟩
theorem js {α κ:Type} [DecidableEq κ] {key:α->κ} {n:κ} {xs:List α}:Qe key n xs=(jT key n xs).isSome:=by
 unfold Qe jT
 induction xs with
 | nil=>rfl
 | cons y r ih =>
  rw[List.any_cons,List.find?_cons]
  cases h:decide (key y=n) with
  | true=>rfl
  | false=>rw[Bool.false_or,ih]
theorem zkZ {n m:Int} {x:zn} {xs:List zn} (hR:z8 xs) (hh:zw n xs=true) (hx:x.ino=n):Gl m (jq x xs)+VU m (zf n xs)=Gl m xs+VU m x:=by
 have h:=Z3 (VU m) (x:=x) hR
 rw[hx,(zq hh).1]at h
 exact h
theorem zd0 {m:Int} {x:zn} {xs:List zn} (hR:z8 xs) (hh:zw x.ino xs=false):Gl m (jq x xs)=Gl m xs+VU m x:=by
 have h:=Z3 (VU m) (x:=x) hR
 rw[(Jg hh).1]at h
 exact h
theorem zgC {n:Int} {xs:List zn} (h:∀ x∈xs,∀ e∈x.es,e.ino≠n):Gl n xs=0:=by
 unfold Gl vn
 rw[List.sum_eq_zero_iff_forall_eq_nat]
 intro k hk
 obtain ⟨x,hx,rfl⟩:=List.mem_map.1 hk
 unfold VU
 rw[List.length_eq_zero_iff,List.filter_eq_nil_iff]
 intro e he
 simpa using h x hx e he
theorem NL {m i:Int} {n:List UInt8} {es:List zK} {x:zn} (hR:XP es) (h:X8 n es=false):VU m { x with es:=z7 n i es }=VU m { x with es:=es }+if i=m then 1 else 0:=by
 obtain ⟨_,_,_,h4⟩:=zat n hR
 unfold z7 VU
 rw[(h4 h).2.1]
 show ((Qh jk zK.name ⟨n,i⟩ es).filter _).length=_
 rw[yV]
 by_cases hi:i=m<;>simp[hi]
theorem Vi {n:List UInt8} {es:List zK} (h:X8 n es=true):jT zK.name n es=some ⟨n,zC n es⟩:=by
 unfold X8 at h
 rw[js]at h
 obtain ⟨e,he⟩:=Option.isSome_iff_exists.1 h
 have h1:=(Yq he).1
 unfold zC
 rw[he]
 cases e with
 | mk a b=>simp at h1 ⊢;exact h1
theorem un {n:List UInt8} {i:Int} {es:List zK} (h:XP es):XP (z7 n i es):=VE (x:=(⟨n,i⟩:zK)) h
theorem Vj {n:List UInt8} {i:Int} {es:List zK} {e:zK} (h:e∈z7 n i es):e=⟨n,i⟩∨e∈es:=by
 unfold z7 at h
 rcases kM.1 h with h | h
 ·exact .inl h
 ·exact .inr (Mn.1 h).1
end
section
structure ZT (f:FsV) (s:zT):Prop where
 has:zw s.dir f.xs=true
 kind:(zf s.dir f.xs).kind=2
 free:X8 s.name (zf s.dir f.xs).es=false
structure zqh (f:FsV) (s:zT):Prop where
 has:zw s.dir f.xs=true
 kind:(zf s.dir f.xs).kind=2
 there:jT zK.name s.name (zf s.dir f.xs).es=some ⟨s.name,s.ino⟩
abbrev jV (d:zn) (es:List zK):zn:={ d with es:=es }
theorem Xp {xs:List zn} {n:Int} {F:List zK->List zK} (hh:zw n xs=true) {z:zn}:z∈Y2 n F xs↔z=jV (zf n xs) (F (zf n xs).es)∨(z∈xs/\z.ino≠n):=by
 unfold Y2
 rw[Jm]
 show z=jV _ _∨(z∈xs/\z.ino≠(zf n xs).ino)↔_
 rw[(zq hh).2.2]
theorem Zf {xs:List zn} {n m:Int} {F:List zK->List zK} (hh:zw n xs=true):zw m (Y2 n F xs)=zw m xs:=by
 unfold Y2
 rw[QL]
 show (decide ((zf n xs).ino=m)||zw m xs)=_
 rw[(zq hh).2.2]
 by_cases h:n=m
 ·subst h;rw[hh];simp
 ·simp[h]
theorem zb1 {xs:List zn} {n m:Int} {F:List zK->List zK} (hh:zw n xs=true):zf m (Y2 n F xs)=if n=m then jV (zf n xs) (F (zf n xs).es) else zf m xs:=by
 unfold Y2
 rw[Qw]
 show (if (zf n xs).ino=m then _ else _)=_
 rw[(zq hh).2.2]
theorem zeG {xs:List zn} {n m:Int} {F:List zK->List zK} (hR:z8 xs) (hh:zw n xs=true):Gl m (Y2 n F xs)+VU m (zf n xs)=Gl m xs+VU m (jV (zf n xs) (F (zf n xs).es)):=
 zkZ hR hh (zq hh).2.2
theorem Gc {f:FsV} (hf:FsI f):zw f.next f.xs=false/\∀ x∈f.xs,∀ e∈x.es,e.ino≠f.next:=by
 have h1:zw f.next f.xs=false:=by
  rw[Bool.eq_false_iff]
  intro h
  have:=(hf.ino _ (zq h).2.1).2
  rw[(zq h).2.2]at this
  omega
 refine ⟨h1,fun x hx e he hn=>?_⟩
 have:=hf.led x hx e he
 rw[hn,h1]at this
 cases this
theorem xD {f:FsV} (hf:FsI f):1<f.next:=by
 have:=(hf.ino _ (zq hf.root).2.1).2
 rw[(zq hf.root).2.2]at this
 exact this
theorem zkx {f:FsV} (hf:FsI f) {s:zT} (hs:ZT f s) (k:Int) (hk:k=1∨k=2∨k=3) (t:List UInt8):FsI (Un f s k t):=by
 obtain ⟨n1,n2⟩:=Gc hf
 have hd:=(zq hs.has).2.1
 have hR1:z8 (Y2 s.dir (z7 s.name f.next) f.xs):=QA hf.rises
 have hn1:zw f.next (Y2 s.dir (z7 s.name f.next) f.xs)=false:=by rw[Zf hs.has];exact n1
 have hlt:=xD hf
 have hdn:s.dir≠f.next:=fun e=>by have:=hs.has;rw[e,n1]at this;cases this
 refine ⟨QA hR1,fun x hx=>?_,fun x hx=>?_,fun x hx=>?_,fun x hx hk2=>?_,fun x hx e he=>?_,fun x hx=>?_,?_,?_,?_⟩
 ·rcases Jm.1 hx with rfl | ⟨hx,_⟩
  ·exact ⟨by show 1<=f.next;omega,by show f.next<f.next+1;omega⟩
  ·rcases (Xp hs.has).1 hx with rfl | ⟨hx,_⟩
   ·have:=hf.ino _ hd
    exact ⟨this.1,by show (zf s.dir f.xs).ino<f.next+1;omega⟩
   ·have:=hf.ino _ hx
    exact ⟨this.1,by show x.ino<f.next+1;omega⟩
 ·rcases Jm.1 hx with rfl | ⟨hx,_⟩
  ·exact hk
  ·rcases (Xp hs.has).1 hx with rfl | ⟨hx,_⟩
   ·exact .inr (.inl hs.kind)
   ·exact hf.kind _ hx
 ·rcases Jm.1 hx with rfl | ⟨hx,_⟩
  ·exact List.Pairwise.nil
  ·rcases (Xp hs.has).1 hx with rfl | ⟨hx,_⟩
   ·exact un (hf.es _ hd)
   ·exact hf.es _ hx
 ·rcases Jm.1 hx with rfl | ⟨hx,_⟩
  ·rfl
  ·rcases (Xp hs.has).1 hx with rfl | ⟨hx,_⟩
   ·exact absurd hs.kind hk2
   ·exact hf.file _ hx hk2
 ·show zw e.ino (jq _ _)=true
  rw[QL,Zf hs.has]
  show (decide (f.next=e.ino)||zw e.ino f.xs)=true
  rcases Jm.1 hx with rfl | ⟨hx,_⟩
  ·cases he
  ·rcases (Xp hs.has).1 hx with rfl | ⟨hx,_⟩
   ·rcases Vj he with rfl | he
    ·simp
    ·rw[hf.led _ hd e he,Bool.or_true]
   ·rw[hf.led _ hx e he,Bool.or_true]
 ·show x.links=(Gl x.ino (jq _ _):Int)
  rw[zd0 hR1 hn1]
  have hc:=zeG (m:=x.ino) (F:=z7 s.name f.next) hf.rises hs.has
  have hw:=NL (m:=x.ino) (i:=f.next) (x:=zf s.dir f.xs) (hf.es _ hd) hs.free
  have hz:VU x.ino (⟨f.next,k,1,t,if k=2 then s.dir else 0,[]⟩:zn)=0:=rfl
  have hw:VU x.ino (jV (zf s.dir f.xs) (z7 s.name f.next (zf s.dir f.xs).es))=VU x.ino (zf s.dir f.xs)+if f.next=x.ino then 1 else 0:=hw
  rw[hz]
  rcases Jm.1 hx with rfl | ⟨hx,hxn⟩
  ·have h0:Gl f.next f.xs=0:=zgC n2
   have hw:VU f.next (jV (zf s.dir f.xs) (z7 s.name f.next (zf s.dir f.xs).es))=VU f.next (zf s.dir f.xs)+if f.next=f.next then 1 else 0:=hw
   rw[if_pos rfl]at hw
   show (1:Int)=((Gl f.next (Y2 s.dir (z7 s.name f.next) f.xs)+0:Nat):Int)
   have hc:Gl f.next (Y2 s.dir (z7 s.name f.next) f.xs)+VU f.next (zf s.dir f.xs)=Gl f.next f.xs+VU f.next (jV (zf s.dir f.xs) (z7 s.name f.next (zf s.dir f.xs).es)):=hc
   omega
  ·have hxn:x.ino≠f.next:=hxn
   rw[if_neg fun e=>hxn e.symm]at hw
   have hl:x.links=(Gl x.ino f.xs:Int):=by
    rcases (Xp hs.has).1 hx with rfl | ⟨hx,_⟩
    ·exact hf.links (zf s.dir f.xs) hd
    ·exact hf.links _ hx
   omega
 ·show zw 1 (jq _ _)=true
  rw[QL,Zf hs.has,hf.root,Bool.or_true]
 ·show (zf 1 (jq _ _)).kind=2
  rw[Qw]
  rw[if_neg (show ¬f.next=1 by omega),zb1 hs.has]
  split
  ·exact hs.kind
  ·exact hf.base
 ·show Gl 1 (jq _ _)=0
  rw[zd0 hR1 hn1]
  have hc:=zeG (m:=1) (F:=z7 s.name f.next) hf.rises hs.has
  have hw:VU 1 (jV (zf s.dir f.xs) (z7 s.name f.next (zf s.dir f.xs).es))=VU 1 (zf s.dir f.xs)+if f.next=1 then 1 else 0:=NL (m:=1) (i:=f.next) (x:=zf s.dir f.xs) (hf.es (zf s.dir f.xs) hd) hs.free
  have hz:VU 1 (⟨f.next,k,1,t,if k=2 then s.dir else 0,[]⟩:zn)=0:=rfl
  have:=hf.bare
  rw[if_neg (show ¬f.next=1 by omega)]at hw
  omega
theorem znE {f:FsV} (hf:FsI f) {s:zT} (hs:ZT f s) (k:Int) (hk:k=1∨k=2∨k=3) (t:List UInt8):FsI (Yx f s k t).1:=by
 unfold Yx
 by_cases h1:may s.name=true
 ·rw[if_pos h1]
  by_cases h2:j3 f 1 (if k=1 then (t.length:Int) else 0)=true
  ·rw[if_pos h2];exact zkx hf hs k hk t
  ·rw[if_neg h2];exact hf
 ·rw[if_neg h1];exact hf
end
section
theorem zjf {f:FsV} (hf:FsI f):∀ (ns:List (List UInt8)) (s:zT),(s.ino≠0->zw s.ino f.xs=true)->(atW f.xs ns s).2=0->ns≠[] ->
  zw (atW f.xs ns s).1.dir f.xs=true/\(zf (atW f.xs ns s).1.dir f.xs).kind=2/\(atW f.xs ns s).1.ino=zC (atW f.xs ns s).1.name (zf (atW f.xs ns s).1.dir f.xs).es/\(atW f.xs ns s).1.name∈ns
 | [],s,_,_,h=>absurd rfl h
 | n :: r,s,hs,h0,_=>by
  unfold atW at h0 ⊢
  by_cases h1:s.ino=0
  ·rw[if_pos h1]at h0;cases h0
  rw[if_neg h1]at h0 ⊢
  by_cases h2:(zf s.ino f.xs).kind≠2
  ·rw[if_pos h2]at h0;cases h0
  rw[if_neg h2]at h0 ⊢
  have h2:(zf s.ino f.xs).kind=2:=Classical.not_not.1 h2
  have hg:=zq (hs h1)
  have hnx:zC n (zf s.ino f.xs).es≠0->zw (zC n (zf s.ino f.xs).es) f.xs=true:=fun hne=>by
   have hh:X8 n (zf s.ino f.xs).es=true:=by
    unfold X8
    rw[js]
    cases hq:jT zK.name n (zf s.ino f.xs).es with
    | some e=>rfl
    | none=>unfold zC at hne;rw[hq]at hne;exact absurd rfl hne
   exact hf.led _ hg.2.1 _ (Yq (Vi hh)).2
  cases r with
  | nil =>
   unfold atW
   rw[hg.2.2]
   exact ⟨hs h1,h2,rfl,List.mem_cons_self⟩
  | cons m r =>
   obtain ⟨i1,i2,i3,i4⟩:=zjf hf (m :: r) ⟨(zf s.ino f.xs).ino,n,zC n (zf s.ino f.xs).es⟩ hnx h0 (by simp)
   exact ⟨i1,i2,i3,List.mem_cons_of_mem _ i4⟩
theorem MI {f:FsV} (hf:FsI f):∀ (ns:List (List UInt8)) (s:zT),(s.ino≠0->zw s.ino f.xs=true)->(atW f.xs ns s).1.ino≠0->zw (atW f.xs ns s).1.ino f.xs=true
 | [],s,hs,h=>hs h
 | n :: r,s,hs,h=>by
  unfold atW at h ⊢
  by_cases h1:s.ino=0
  ·rw[if_pos h1]at h;exact absurd rfl h
  rw[if_neg h1]at h ⊢
  by_cases h2:(zf s.ino f.xs).kind≠2
  ·rw[if_pos h2]at h;exact absurd rfl h
  rw[if_neg h2]at h ⊢
  have hg:=zq (hs h1)
  refine MI hf r _ (fun hne=>?_) h
  have hne:zC n (zf s.ino f.xs).es≠0:=hne
  have hh:X8 n (zf s.ino f.xs).es=true:=by
   unfold X8
   rw[js]
   cases hq:jT zK.name n (zf s.ino f.xs).es with
   | some e=>rfl
   | none=>unfold zC at hne;rw[hq]at hne;exact absurd rfl hne
  exact hf.led _ hg.2.1 _ (Yq (Vi hh)).2
end
section
structure x8 (w:qd):Prop where
 fs:FsI w.fs
 kept:jE zo9 jZ.slot w.kept
 pool:z8 w.pool
 apart:∀ x∈w.pool,zw x.ino w.fs.xs=false/\x.ino<w.fs.next
theorem Qj {f:FsV} (hf:FsI f) {n:Int} (h:zw n f.xs=true):n≠0:=fun e=>by
 have:=(hf.ino _ (zq h).2.1).1
 rw[(zq h).2.2]at this
 omega
theorem Ue {f:FsV} (hf:FsI f) {d:Int} (hd:zw d f.xs=true) {n:List UInt8} (h:X8 n (zf d f.xs).es=true):zw (zC n (zf d f.xs).es) f.xs=true:=
 hf.led _ (zq hd).2.1 _ (Yq (Vi h)).2
theorem znv {f:FsV} (hf:FsI f) {p:List UInt8} (hp:qc p=true) (h:(atV f p).2=0) :
  zw (atV f p).1.dir f.xs=true/\(zf (atV f p).1.dir f.xs).kind=2/\(atV f p).1.ino=zC (atV f p).1.name (zf (atV f p).1.dir f.xs).es/\(atV f p).1.name∈zg p:=by
 unfold qc at hp
 simp only[Bool.and_eq_true,Bool.not_eq_true',decide_eq_false_iff_not]at hp
 unfold atV at h ⊢
 rw[if_pos hp.1]at h ⊢
 exact zjf hf (zg p) ⟨0,[],1⟩ (fun _=>hf.root) h hp.2
theorem kR {f:FsV} (hf:FsI f) {p:List UInt8} (hp:qc p=true) (h:(isV f p false).2.2=0):ZT f (isV f p false).1:=by
 unfold isV at h ⊢
 simp only at h ⊢
 by_cases h0:(atV f p).2≠0
 ·rw[if_pos h0]at h;exact absurd h h0
 rw[if_neg h0]at h
 have h0:(atV f p).2=0:=Classical.not_not.1 h0
 obtain ⟨a1,a2,a3,_⟩:=znv hf hp h0
 refine ⟨a1,a2,?_⟩
 have hh:zw (atV f p).1.ino f.xs=false:=by
  cases hq:zw (atV f p).1.ino f.xs with
  | false=>rfl
  | true=>rw[hq]at h;simp at h
 rw[Bool.eq_false_iff]
 intro he
 have:=Ue hf a1 he
 rw[←a3,hh]at this
 cases this
theorem zpq {w:qd} (hw:x8 w) {g:FsV} (hg:FsI g) (hn:w.fs.next<=g.next) (hh:∀ x∈w.pool,zw x.ino g.xs=false):x8 { w with fs:=g }:=
 ⟨hg,hw.kept,hw.pool,fun x hx=>⟨hh x hx,by have:=(hw.apart x hx).2;show x.ino<g.next;omega⟩⟩
theorem XB (f:FsV) (s:zT) (k:Int) (t:List UInt8):(Yx f s k t).1=f∨(Yx f s k t).1=Un f s k t:=by
 unfold Yx
 by_cases h1:may s.name=true
 ·rw[if_pos h1]
  by_cases h2:j3 f 1 (if k=1 then (t.length:Int) else 0)=true
  ·rw[if_pos h2];exact .inr rfl
  ·rw[if_neg h2];exact .inl rfl
 ·rw[if_neg h1];exact .inl rfl
theorem zlR {w:qd} (hw:x8 w) {p:List UInt8} (hp:qc p=true) {k:Int} (hk:k=1∨k=2∨k=3) (t:List UInt8):x8 (qh w p k t).1:=by
 unfold qh
 by_cases h:(isV w.fs p false).2.2≠0
 ·rw[if_pos h];exact hw
 rw[if_neg h]
 have hs:=kR hw.fs hp (Classical.not_not.1 h)
 refine zpq hw (znE hw.fs hs k hk t) ?_ ?_
 ·rcases XB w.fs (isV w.fs p false).1 k t with e | e
  ·rw[e];exact Int.le_refl _
  ·rw[e];show w.fs.next<=w.fs.next+1;omega
 ·intro x hx
  obtain ⟨a1,a2⟩:=hw.apart x hx
  rcases XB w.fs (isV w.fs p false).1 k t with e | e
  ·rw[e];exact a1
  ·rw[e]
   show zw x.ino (jq _ _)=false
   rw[QL,Zf hs.has,a1]
   show (decide (w.fs.next=x.ino)||false)=false
   rw[decide_eq_false (by omega)];rfl
end
section
def yN (N:Nat) (x:zn):Prop:=x.es.length<=N/\x.data.length<=5000/\∀ e∈x.es,e.name.length<=300
structure zaW (N:Nat) (w:qd):Prop where
 len:w.fs.xs.length<=N
 node:∀ x∈w.fs.xs,yN N x
 klen:w.kept.length<=N
 kdata:∀ k∈w.kept,k.data.length<=5000
 plen:w.pool.length<=N
 pnode:∀ x∈w.pool,yN N x
 next:w.fs.next<=1099511627776+N
 room:w.fs.maxI<=1073741824/\w.fs.maxB<=1073741824/\-1073741824<=w.fs.maxI/\-1073741824<=w.fs.maxB
theorem yN.up {N:Nat} {x:zn} (h:yN N x):yN (N+1) x:=⟨Nat.le_succ_of_le h.1,h.2⟩
theorem zaW.up {N:Nat} {w:qd} (h:zaW N w):zaW (N+1) w:=
 ⟨Nat.le_succ_of_le h.len,fun x hx=>(h.node x hx).up,Nat.le_succ_of_le h.klen,h.kdata,Nat.le_succ_of_le h.plen,fun x hx=>(h.pnode x hx).up,by have:=h.next;omega,h.room⟩
theorem Hr {n:List UInt8} (h:may n=true):n.length<=255:=by
 unfold may at h
 simp only[Bool.and_eq_true,decide_eq_true_eq]at h
 exact h.1.1.1.2
theorem zce (n:List UInt8) (i:Int) (es:List zK):(z7 n i es).length<=es.length+1:=by
 unfold z7
 rw[vr]
 have:=VI (key:=zK.name) n es
 omega
theorem zeP {N:Nat} {x:zn} (h:yN N x) {n:List UInt8} (hn:n.length<=300) (i:Int):yN (N+1) (jV x (z7 n i x.es)):=by
 refine ⟨?_,h.2.1,fun e he=>?_⟩
 ·have:=zce n i x.es
  have:=h.1
  show (z7 n i x.es).length<=N+1
  omega
 ·rcases Vj he with rfl | he
  ·exact hn
  ·exact h.2.2 e he
theorem zgo {N:Nat} {xs:List zn} (h:∀ x∈xs,yN N x) {n:Int} (hh:zw n xs=true):yN N (zf n xs):=h _ (zq hh).2.1
theorem zkI {N:Nat} {xs:List zn} {x:zn} (h:∀ x∈xs,yN N x) (hx:yN N x):∀ z∈jq x xs,yN N z:=fun z hz=>by
 rcases Jm.1 hz with rfl | ⟨hz,_⟩
 ·exact hx
 ·exact h z hz
theorem zgJ {x:zn} {xs:List zn} (hR:z8 xs) (hh:zw x.ino xs=true):(jq x xs).length=xs.length:=by rw[←xZ hR hh];simp
theorem HU {xs:List zn} {n:Int} {F:List zK->List zK} (hR:z8 xs) (hh:zw n xs=true):(Y2 n F xs).length=xs.length:=by
 unfold Y2
 refine zgJ hR ?_
 show zw (zf n xs).ino xs=true
 rw[(zq hh).2.2];exact hh
theorem znm {f:FsV} (hf:FsI f) {p:List UInt8} (hp:qc p=true) (h:(atV f p).2=0):(atV f p).1.name.length<=300:=by
 have h1:=(znv hf hp h).2.2.2
 unfold qc Jw at hp
 simp only[Bool.and_eq_true]at hp
 have:=Hr (List.all_eq_true.1 hp.1.2 _ h1)
 omega
theorem zkE {f:FsV} {p:List UInt8} {b:Bool} (h:(isV f p b).2.2=0):(atV f p).2=0:=by
 unfold isV at h
 simp only at h
 by_cases h0:(atV f p).2≠0
 ·rw[if_pos h0]at h;exact h
 ·exact Classical.not_not.1 h0
theorem zqC {N:Nat} {w:qd} (hw:x8 w) (hb:zaW N w) {p:List UInt8} (hp:qc p=true) {k:Int} {t:List UInt8} (ht:t.length<=5000):zaW (N+1) (qh w p k t).1:=by
 unfold qh
 by_cases h:(isV w.fs p false).2.2≠0
 ·rw[if_pos h];exact hb.up
 rw[if_neg h]
 have h:=Classical.not_not.1 h
 have hs:=kR hw.fs hp h
 unfold Yx
 by_cases h1:may (isV w.fs p false).1.name=true
 ·rw[if_pos h1]
  by_cases h2:j3 w.fs 1 (if k=1 then (t.length:Int) else 0)=true
  ·rw[if_pos h2]
   have hl:=Hr h1
   refine ⟨?_,?_,by have:=hb.klen;show w.kept.length<=N+1;omega,hb.kdata,by have:=hb.plen;show w.pool.length<=N+1;omega,fun x hx=>(hb.pnode x hx).up,?_,hb.room⟩
   ·show (jq _ _).length<=N+1
    refine Nat.le_trans zlm ?_
    rw[HU hw.fs.rises hs.has]
    have:=hb.len;omega
   ·refine zkI (fun z hz=>?_) ⟨Nat.zero_le _,ht,fun e he=>by cases he⟩
    rcases (Xp hs.has).1 hz with rfl | ⟨hz,_⟩
    ·exact zeP (zgo hb.node hs.has) (by omega) _
    ·exact (hb.node z hz).up
   ·show w.fs.next+1<=_
    have:=hb.next;omega
  ·rw[if_neg h2];exact hb.up
 ·rw[if_neg h1];exact hb.up
end
section
open CA CB
open Go.RowKit
section
variable {G:zk}
theorem ya (f:FsV):Fun Tryz.prog G 277 [.agg (fsC f)] (.sc (.int .i64 (f.xs.length:Nat))) 0:=by
 refine fon Tryz.func277 ?_;dsimp only[Tryz.f277]
 push_cast -dsimp
 exact dn (by push_cast -dsimp [zb,za,CLe,ze,show (zF f.xs).length=f.xs.length from List.length_map ..])
theorem uT (f:FsV) (hf:FsS f):Fun Tryz.prog G 278 [.agg (fsC f)] (.sc (.int .i64 (zV f.xs:Nat))) 0:=by
 have hll:(zF f.xs).length=f.xs.length:=List.length_map ..
 have hb:=hf.bytes
 have h4:=hf.len
 have hb0:zV []=0:=rfl
 have hmono:∀ i,zV (f.xs.take i)<=100000000:=fun i=>by
  have h1:=VS (xs:=f.xs.take i) (n:=10000) fun x hx=>(hf.node x (List.mem_of_mem_take hx)).2.1
  have h2:(f.xs.take i).length<=10000:=by rw[List.length_take];have:=hf.len;omega
  have:(f.xs.take i).length*10000<=10000*10000:=Nat.mul_le_mul_right _ h2
  omega
 refine fon Tryz.func278 ?_;dsimp only[Tryz.f278]
 push_cast -dsimp
 refine loop (fun i:Nat=>⟨[(1,.ptr 0 0),(3,.sc (.int .i64 (zV (f.xs.take i):Nat))),(7,.sc (.int .i64 (f.xs.length:Nat))),(8,.sc (.int .i64 i))],[fsC f],0,0⟩) (fun i=>i<=f.xs.length) (fun i=>f.xs.length-i) 0 (Nat.zero_le _) ?_ ?_
 ·exact wk (by push_cast -dsimp [zb,za,CLe,ze,hb0,hll,List.take_zero])
 ·intro i h1
  by_cases h:i<f.xs.length
  ·have g1:=qD f.xs i h
   have ht:=kJ h
   have hm:=hmono (i+1)
   have hm0:=hmono i
   rw[ht]at hm
   by_cases hk:f.xs[i].kind=1
   ·rw[if_pos hk]at ht hm
    push_cast -dsimp [hll,h,g1,hk]
    repeat refine an ?_
    exact ⟨i+1,h,by omega,wk (by push_cast -dsimp [zb,za,CLe,ze,ht])⟩
   ·rw[if_neg hk]at ht hm
    push_cast -dsimp [hll,h,g1,hk]
    repeat refine an ?_
    exact ⟨i+1,h,by omega,wk (by push_cast -dsimp [zb,za,CLe,ze,ht,Nat.add_zero])⟩
  ·rw[List.take_of_length_le (by omega)]
   push_cast -dsimp [hll,h]
   exact dn
theorem NP (f:FsV) (hf:FsS f) (n b:Int) (hn:-1000000000<=n/\n<=1000000000) (hb:-1000000000<=b/\b<=1000000000):Fun Tryz.prog G 255 [.agg (fsC f),.sc (.int .i64 n),.sc (.int .i64 b)] (.sc (.bool (j3 f n b))) 0:=by
 have h1:=ya (G:=G) f
 have h2:=uT (G:=G) f hf
 have h3:=hf.bytes
 have h4:=hf.len
 by_cases c1:(f.xs.length:Int)+n<=f.maxI
 ·have e:j3 f n b=decide ((zV f.xs:Int)+b<=f.maxB):=by unfold j3;rw[decide_eq_true c1,Bool.true_and]
  refine fon Tryz.func255 ?_;dsimp only[Tryz.f255]
  push_cast -dsimp
  refine cl (h1) ?_;push_cast -dsimp [c1]
  repeat refine an ?_
  refine cl (h2) ?_;push_cast -dsimp
  repeat refine an ?_
  exact dn (by push_cast -dsimp [zb,za,CLe,ze,e])
 ·have e:j3 f n b=false:=by unfold j3;rw[decide_eq_false c1,Bool.false_and]
  refine fon Tryz.func255 ?_;dsimp only[Tryz.f255]
  push_cast -dsimp
  refine cl (h1) ?_;push_cast -dsimp [c1]
  repeat refine an ?_
  exact dn (by push_cast -dsimp [zb,za,CLe,ze,e])
end
end
section
open CA CB
open Go.RowKit
abbrev jI (s:zT):List C:=[.sc (.int .i64 s.dir),.str s.name,.sc (.int .i64 s.ino)]
theorem FsS.es {f:FsV} (h:FsS f) {n:Int} (hh:zw n f.xs=true):(zf n f.xs).es.length<=10000:=(h.node _ (zq hh).2.1).1
theorem NG {xs:List (List UInt8)} {k:Nat} (h:k<xs.length):(zx xs)[k]?=some [.str xs[k]]:=by simp[List.getElem?_map,List.getElem?_eq_getElem h]
theorem vy (f:FsV) (hf:FsI f) (hs:FsS f) (p:List UInt8) (hp:p.length<=1000000):Fun Tryz.prog G0 218 [.agg (fsC f),.str p] (.tup [.agg (jI (atV f p).1),.sc (.int .i64 (atV f p).2)]) 0:=by
 have hpl:=Mh p (by omega)
 have hlen:=hs.len
 have hnl:(zg p).length<=1000000:=by have:=zS p;omega
 cases hpp:Jw p with
 | false =>
  have e:atV f p=(zU,9):=by unfold atV;rw[hpp];rfl
  unfold JP at hpl
  rw[hpp]at hpl
  refine fon Tryz.func218 ?_;dsimp only[Tryz.f218]
  push_cast -dsimp
  refine cl (hpl) ?_;push_cast -dsimp
  exact dn (by push_cast -dsimp [zb,za,CLe,ze,e,zU])
 | true =>
  have e:atV f p=atW f.xs (zg p) ⟨0,[],1⟩:=by unfold atV;rw[hpp];rfl
  unfold JP at hpl
  rw[hpp,if_pos rfl]at hpl
  generalize zg p=ns at hpl hnl e
  have hsl:(zx ns).length=ns.length:=List.length_map ..
  refine fon Tryz.func218 ?_;dsimp only[Tryz.f218]
  push_cast -dsimp
  refine cl (hpl) ?_;push_cast -dsimp
  refine loop (fun x:Nat×zT=>⟨[(1,.str p),(2,.ptr 0 0),(4,.ptr 1 0),(8,.ptr 2 0),(24,.own 0 9 1 (zx ns)),(25,.sc (.int .i64 (ns.length:Nat))),(26,.sc (.int .i64 x.1))],[fsC f,[.sc (.int .i64 0),.str [],.sc (.int .i64 0)],jI x.2],1,0⟩)
   (fun x=>x.1<=ns.length/\atW f.xs ns ⟨0,[],1⟩=atW f.xs (ns.drop x.1) x.2/\(x.2.ino≠0->zw x.2.ino f.xs=true)) (fun x=>ns.length-x.1) (0,⟨0,[],1⟩) ⟨Nat.zero_le _,rfl,fun _=>hf.root⟩ ?_ ?_
  ·exact wks [.inl 0] (by push_cast -dsimp [zb,za,CLe,ze,hsl])
  rintro ⟨k,s⟩ ⟨hk,hat,hin⟩
  simp only at hk hat hin ⊢
  by_cases hlt:k<ns.length
  ·have gs:=NG hlt
   have hdr:ns.drop k=ns[k] :: ns.drop (k+1):=List.drop_eq_getElem_cons hlt
   obtain ⟨nm,hnm⟩:∃ nm,ns[k]=nm:=⟨_,rfl⟩
   rw[hnm]at gs hdr
   have hg:=YR (G:=G0) f s.ino (by omega) hf.rises
   cases hh:zw s.ino f.xs with
   | false =>
    have h0:s.ino=0:=Classical.byContradiction fun hne=>by rw[hin hne]at hh;cases hh
    have hr:atV f p=(zU,1):=by rw[e,hat,hdr];unfold atW;rw[if_pos h0]
    rw[hh]at hg
    push_cast -dsimp [hlt,gs]
    repeat refine an ?_
    refine cl (hg) ?_;push_cast -dsimp
    exact dn (by push_cast -dsimp [zb,za,CLe,ze,hr,zU])
   | true =>
    have hn0:s.ino≠0:=Qj hf hh
    have hgg:=zq hh
    rw[hh]at hg
    by_cases hk2:(zf s.ino f.xs).kind=2
    ·have hfd:=Nu (G:=G0) (zf s.ino f.xs).es nm (by have:=hs.es hh;omega) (hf.es _ hgg.2.1)
     have hnx:atW f.xs ns ⟨0,[],1⟩=atW f.xs (ns.drop (k+1)) ⟨(zf s.ino f.xs).ino,nm,zC nm (zf s.ino f.xs).es⟩:=by
      rw[hat,hdr]
      conv=>lhs;unfold atW
      rw[if_neg hn0,if_neg (by simp[hk2])]
     have hin2:zC nm (zf s.ino f.xs).es≠0->zw (zC nm (zf s.ino f.xs).es) f.xs=true:=fun hne=>by
      refine Ue hf hh ?_
      unfold X8
      rw[js]
      cases hq:jT zK.name nm (zf s.ino f.xs).es with
      | some e=>rfl
      | none=>unfold zC at hne;rw[hq]at hne;exact absurd rfl hne
     push_cast -dsimp [hlt,gs]
     repeat refine an ?_
     refine cl (hg) ?_;push_cast -dsimp [hk2]
     refine cl (hfd) ?_;push_cast -dsimp
     repeat refine an ?_
     exact ⟨(k+1,⟨(zf s.ino f.xs).ino,nm,zC nm (zf s.ino f.xs).es⟩),⟨hlt,hnx,hin2⟩,by simp only;omega,wks [.inl 0]⟩
    ·have hr:atV f p=(zU,3):=by rw[e,hat,hdr];unfold atW;rw[if_neg hn0,if_pos hk2]
     push_cast -dsimp [hlt,gs]
     repeat refine an ?_
     refine cl (hg) ?_;push_cast -dsimp [hk2]
     exact dn (by push_cast -dsimp [zb,za,CLe,ze,hr,zU])
  ·have hr:atV f p=(s,0):=by rw[e,hat,List.drop_of_length_le (by omega)];unfold atW;rfl
   push_cast -dsimp [hlt]
   exact dn (by push_cast -dsimp [zb,za,CLe,ze,hr])
end
section
open CA CB
open Go.RowKit
abbrev zhY (f:FsV):Prop:=0<=f.next/\f.next<=4000000000000000000
theorem yq {f:FsV} (hf:FsI f):f.xs≠[]:=fun h=>by have:=hf.root;rw[h]at this;cases this
theorem zfr {f:FsV} (hf:FsI f) {n:Int} (hh:zw n f.xs=true):XP (zf n f.xs).es:=hf.es _ (zq hh).2.1
theorem Fun.argsLe {P:Program} {G:zk} {f:FuncId} {args args':List C} {r:C} {n:Nat} (h:Fun P G f args r n) (ha:∀ R vs,zm R zu args' vs->zm R zu args vs):Fun P G f args' r n:=
 ⟨h.1,fun R vs hg hv=>h.2 R vs hg (ha R vs hv)⟩
theorem yO {R:Env} {L:Loc} {k:Nat} {v:Value} (h:Rep R L (.sc (.slice none 0 0)) v):Rep R L (.sl k []) v:=by
 rw[zj]at h
 subst h
 unfold Rep
 exact ⟨none,0,rfl,Nat.le_refl _,Nat.zero_le _,.inl rfl⟩
theorem zjT {G:zk} (f:FsV) (x:zn) (hx:x.es = []) (hl:f.xs.length<=90000) (hR:z8 f.xs) :
  Fun Tryz.prog G 258 [.agg (fsC f),.agg [.sc (.int .i64 x.ino),.sc (.int .i64 x.kind),.sc (.int .i64 x.links),.str x.data,.sc (.int .i64 x.parent),.sc (.slice none 0 0)]] (.agg [.sc (.int .i64 f.maxI),.sc (.int .i64 f.maxB),.sc (.int .i64 f.next),.own 0 96 6 (zF (jq x f.xs))]) 1:=by
 refine (zfo f x hl hR).argsLe fun R vs h=>?_
 obtain ⟨v1,us1,rfl,h1,h⟩:=zd.1 h
 obtain ⟨v2,us2,rfl,h2,h⟩:=zd.1 h
 refine zd.2 ⟨_,_,rfl,h1,zd.2 ⟨_,_,rfl,?_,h⟩⟩
 obtain ⟨ws,rfl,hw⟩:=jj.1 h2
 obtain ⟨w1,t1,e1,g1,hw⟩:=zd.1 hw
 obtain ⟨w2,t2,e2,g2,hw⟩:=zd.1 hw
 obtain ⟨w3,t3,e3,g3,hw⟩:=zd.1 hw
 obtain ⟨w4,t4,e4,g4,hw⟩:=zd.1 hw
 obtain ⟨w5,t5,e5,g5,hw⟩:=zd.1 hw
 obtain ⟨w6,t6,e6,g6,hw⟩:=zd.1 hw
 refine jj.2 ⟨ws,rfl,?_⟩
 have g6':Rep R zu (.sl 2 (zG x.es)) w6:=by rw[hx];exact yO g6
 rw[e1,e2,e3,e4,e5,e6]
 exact zd.2 ⟨_,_,rfl,g1,zd.2 ⟨_,_,rfl,g2,zd.2 ⟨_,_,rfl,g3,zd.2 ⟨_,_,rfl,g4,zd.2 ⟨_,_,rfl,g5,zd.2 ⟨_,_,rfl,g6',hw⟩⟩⟩⟩⟩⟩
theorem zal (f:FsV) (hf:FsI f) (hs:FsS f) (hn:zhY f) (s:zT) (hsp:ZT f s) (hnl:s.name.length<=100000) (k:Int) (t:List UInt8) (ht:t.length<=100000) :
  Fun Tryz.prog G0 225 [.agg (fsC f),.agg (jI s),.sc (.int .i64 k),.str t] (.tup [.agg (fsC (Yx f s k t).1),.sc (.int .i64 (Yx f s k t).2)]) 0:=by
 have hm:=x4 s.name (by omega)
 have hlen:=hs.len
 cases hmay:may s.name with
 | false =>
  have e:Yx f s k t=(f,9):=by unfold Yx;rw[hmay];rfl
  rw[hmay]at hm
  by_cases hk:k=1
  ·have hk':=eq_true hk
   refine fof (fun j=>if j=14 then [false,false,false,false,false,true] else []) Tryz.func225 ?_;dsimp only[Tryz.f225]
   push_cast -dsimp [hk']
   refine cl (hm) ?_;push_cast -dsimp
   exact dn (by push_cast -dsimp [zb,za,CLe,ze,e])
  ·have hk':=eq_false hk
   refine fof (fun j=>if j=14 then [false,false,false,false,false,true] else []) Tryz.func225 ?_;dsimp only[Tryz.f225]
   push_cast -dsimp [hk']
   refine cl (hm) ?_;push_cast -dsimp
   exact dn (by push_cast -dsimp [zb,za,CLe,ze,e])
 | true =>
  rw[hmay]at hm
  have key:∀ b:Int,(if k=1 then (t.length:Int) else 0)=b->j3 f 1 b=false->Yx f s k t=(f,8):=fun b hb hr=>by unfold Yx;rw[hmay,if_pos rfl,hb,hr];rfl
  have key2:∀ b:Int,(if k=1 then (t.length:Int) else 0)=b->j3 f 1 b=true->Yx f s k t=(Un f s k t,0):=fun b hb hr=>by unfold Yx;rw[hmay,if_pos rfl,hb,hr];rfl
  have hg:=YR (G:=G0) f s.dir (by omega) hf.rises
  rw[hsp.has]at hg
  have htk:=zhJ (G:=G0) f (by omega) (yq hf) (by have:=hn.1;omega) (by have:=hn.2;omega)
  have hes:=hs.es hsp.has
  have hw:=zeE (G:=G0) (zf s.dir f.xs).es s.name f.next (by omega) (zfr hf hsp.has)
  have hd1:=zfo (G:=G0) ⟨f.maxI,f.maxB,f.next+1,f.xs⟩ (jV (zf s.dir f.xs) (z7 s.name f.next (zf s.dir f.xs).es)) (by simp only;omega) hf.rises
  have hdl:(Y2 s.dir (z7 s.name f.next) f.xs).length=f.xs.length:=HU hf.rises hsp.has
  have hd2:=fun pr:Int=>zjT (G:=G0) ⟨f.maxI,f.maxB,f.next+1,Y2 s.dir (z7 s.name f.next) f.xs⟩ ⟨f.next,k,1,t,pr,[]⟩ rfl (by simp only;omega) (QA hf.rises)
  have hx0:k=2->Un f s k t=⟨f.maxI,f.maxB,f.next+1,jq ⟨f.next,k,1,t,s.dir,[]⟩ (Y2 s.dir (z7 s.name f.next) f.xs)⟩:=fun h=>by unfold Un;rw[if_pos h]
  have hx1:k≠2->Un f s k t=⟨f.maxI,f.maxB,f.next+1,jq ⟨f.next,k,1,t,0,[]⟩ (Y2 s.dir (z7 s.name f.next) f.xs)⟩:=fun h=>by unfold Un;rw[if_neg h]
  unfold Y2 at hd2 hx0 hx1
  by_cases hk:k=1
  ·have hk':=eq_true hk
   have hk2:(k=2)=False:=eq_false (by omega)
   have hr:=NP (G:=G0) f hs 1 t.length (by omega) (by omega)
   cases hrm:j3 f 1 t.length with
   | false =>
    have e:=key _ (if_pos hk) hrm
    rw[hrm]at hr
    refine fof (fun j=>if j=14 then [false,false,false,false,false,true] else []) Tryz.func225 ?_;dsimp only[Tryz.f225]
    push_cast -dsimp [hk']
    refine cl (hm) ?_;push_cast -dsimp
    refine cl (hr) ?_;push_cast -dsimp
    exact dn (by push_cast -dsimp [zb,za,CLe,ze,e])
   | true =>
    have e:=key2 _ (if_pos hk) hrm
    have ex:=hx1 (by omega)
    rw[hrm]at hr
    refine fof (fun j=>if j=14 then [false,false,false,false,false,true] else []) Tryz.func225 ?_;dsimp only[Tryz.f225]
    push_cast -dsimp [hk']
    refine cl (hm) ?_;push_cast -dsimp
    refine cl (hr) ?_;push_cast -dsimp
    refine cl (hg) ?_;push_cast -dsimp
    refine cl (htk) ?_;push_cast -dsimp [hk2]
    refine cl (hw) ?_;push_cast -dsimp
    refine cl (hd1) ?_;push_cast -dsimp
    refine cl (hd2 0) ?_;push_cast -dsimp
    exact dn (by push_cast -dsimp [zb,za,CLe,ze,e,ex])
  ·have hk':=eq_false hk
   have hr:=NP (G:=G0) f hs 1 0 (by omega) (by omega)
   cases hrm:j3 f 1 0 with
   | false =>
    have e:=key _ (if_neg hk) hrm
    rw[hrm]at hr
    refine fof (fun j=>if j=14 then [false,false,false,false,false,true] else []) Tryz.func225 ?_;dsimp only[Tryz.f225]
    push_cast -dsimp [hk']
    refine cl (hm) ?_;push_cast -dsimp
    refine cl (hr) ?_;push_cast -dsimp
    exact dn (by push_cast -dsimp [zb,za,CLe,ze,e])
   | true =>
    have e:=key2 _ (if_neg hk) hrm
    rw[hrm]at hr
    by_cases hk2:k=2
    ·have ex:=hx0 hk2
     have hk2':=eq_true hk2
     refine fof (fun j=>if j=14 then [false,false,false,false,false,true] else []) Tryz.func225 ?_;dsimp only[Tryz.f225]
     push_cast -dsimp [hk']
     refine cl (hm) ?_;push_cast -dsimp
     refine cl (hr) ?_;push_cast -dsimp
     refine cl (hg) ?_;push_cast -dsimp
     refine cl (htk) ?_;push_cast -dsimp [hk2']
     refine cl (hw) ?_;push_cast -dsimp
     refine cl (hd1) ?_;push_cast -dsimp
     refine cl (hd2 s.dir) ?_;push_cast -dsimp
     exact dn (by push_cast -dsimp [zb,za,CLe,ze,e,ex])
    ·have ex:=hx1 hk2
     have hk2':=eq_false hk2
     refine fof (fun j=>if j=14 then [false,false,false,false,false,true] else []) Tryz.func225 ?_;dsimp only[Tryz.f225]
     push_cast -dsimp [hk']
     refine cl (hm) ?_;push_cast -dsimp
     refine cl (hr) ?_;push_cast -dsimp
     refine cl (hg) ?_;push_cast -dsimp
     refine cl (htk) ?_;push_cast -dsimp [hk2']
     refine cl (hw) ?_;push_cast -dsimp
     refine cl (hd1) ?_;push_cast -dsimp
     refine cl (hd2 0) ?_;push_cast -dsimp
     exact dn (by push_cast -dsimp [zb,za,CLe,ze,e,ex])
end
section
open CA CB
open Go.RowKit
end
section
open CA CB
open Go.RowKit
end
section
open Go.RowKit
section
variable {G:zk}
end
end
section
open CA CB
open Go.RowKit
abbrev zkA (k:jZ):List C:=[.sc (.int .i64 k.slot),.sc (.int .i64 k.ino),.sc (.bool k.content),.str k.data]
abbrev YZ (ks:List jZ):List (List C):=ks.map zkA
theorem YI (ks:List jZ) (i:Nat) (h:i<ks.length):(YZ ks)[i]?=some (zkA ks[i]):=by simp[List.getElem?_map,List.getElem?_eq_getElem h]
abbrev vC (w:qd):List C:=[.sc (.int .i64 w.fs.maxI),.sc (.int .i64 w.fs.maxB),.sc (.int .i64 w.fs.next),.sl 6 (zF w.fs.xs),.sl 4 (YZ w.kept),.sl 6 (zF w.pool)]
abbrev N0 (w:qd):C:=.agg (vC w)
section
variable {G:zk}
end
end
section
open Go.RowKit Go.ChangeMaps Go.ChangeShapes Go.WideShapes Go.Deep Go.Joins
section
variable {H:Type} {enc:TypeId×Value->H} {P:Program} {W:World}
theorem qP.two {t:TypeId} {f1 f2:Field} {k1 k2:Nat} {Q1 Q2:List C->Prop} (hs:P.underlying t=some (.struct #[f1,f2])) (h1:qP enc P W f1.type k1 Q1) (h2:qP enc P W f2.type k2 Q2)
  (e1:f1.offset=0) (e2:P.cellsOf f1.type=k1) (e3:f2.offset=k1) (e4:P.cellsOf f2.type=k2) (e5:P.cellsOf t=k1+k2):qP enc P W t (k1+k2) fun row=>∃ a b,row=a++b/\Q1 a/\Q2 b:=fun fuel cs x hx=>by
 obtain ⟨ys,n',hn',hy,hlen,hyl,hf⟩:=DataW.trod_struct hs hx
 rw[e5]at hlen
 have g1:=hf 0 f1 rfl
 have g2:=hf 1 f2 rfl
 have hy2:ys.length=2:=by simpa using hyl
 rw[e1,e2,List.drop_zero,List.getElem?_eq_getElem (by omega)]at g1
 rw[e3,e4,List.getElem?_eq_getElem (by omega)]at g2
 obtain ⟨a,qa,la,la',ra⟩:=h1 _ _ _ g1
 obtain ⟨b,qb,lb,lb',rb⟩:=h2 _ _ _ g2
 refine ⟨a++b,⟨a,b,rfl,qa,qb⟩,by rw[List.length_append,la,lb],hlen,fun j c v h3 h4=>?_⟩
 rcases Nat.lt_or_ge j k1 with hj | hj
 ·rw[List.getElem?_append_left (by omega)]at h3
  exact ra j c v h3 (by rw[List.getElem?_take_of_lt hj];exact h4)
 ·rw[List.getElem?_append_right (by omega),la]at h3
  have hjl:=(List.getElem?_eq_some_iff.1 h3).1
  refine rb (j-k1) c v h3 ?_
  rw[List.getElem?_take_of_lt (by omega),List.getElem?_drop,show k1+(j-k1)=j by omega];exact h4
theorem zhB:qP enc Tryz.prog W 84 4 fun row=>∃ o:jZ,row=zkA o/\o.data.length<=maxLen:=fun fuel cs x hx=>by
 obtain ⟨row,⟨hl,hq⟩,h1,h2,h3⟩:=qP.struct (W:=W) (enc:=enc) (Qs:=fun j c=>match j with | 0=>∃ n,c = .sc (.int .i64 n)/\(Lit.int .i64 n).wf=true | 1=>∃ n,c = .sc (.int .i64 n)/\(Lit.int .i64 n).wf=true | 2=>∃ b,c = .sc (.bool b) | 3=>∃ l:List UInt8,c = .str l/\l.length<=maxLen | _=>True) Tryz.underlying84 (by kernel_rfl) (by kernel_rfl) (fun j f hj=>by
  match j,hj with
  | 0,hj=>cases hj;exact Opn.int Tryz.underlying3
  | 1,hj=>cases hj;exact Opn.int Tryz.underlying3
  | 2,hj=>cases hj;exact Opn.bool Tryz.underlying4
  | 3,hj=>cases hj;exact Opn.str Tryz.underlying9
  | j+4,hj=>simp at hj) fuel cs x hx
 match row,h1,hq,h3 with
 | [c0,c1,c2,c3],_,hq,h3 =>
  obtain ⟨a,rfl,_⟩:=hq 0 c0 rfl
  obtain ⟨b,rfl,_⟩:=hq 1 c1 rfl
  obtain ⟨c,rfl⟩:=hq 2 c2 rfl
  obtain ⟨d,rfl,hd⟩:=hq 3 c3 rfl
  exact ⟨_,⟨⟨a,b,c,d⟩,rfl,hd⟩,rfl,h2,h3⟩
theorem zcF:Opn enc Tryz.prog W 25 fun c=>∃ xs:List jZ,c = .sl 4 (YZ xs)/\xs.length<=maxLen/\∀ x∈xs,x.data.length<=maxLen:=fun fuel cs x hx=>by
 obtain ⟨v,c,rfl,⟨rows,rfl,hl,hr⟩,h1,h2⟩:=Opn.slice (W:=W) (enc:=enc) Tryz.underlying25 (show Tryz.prog.cellsOf 84=4 by kernel_rfl) (by decide) zhB fuel cs x hx
 obtain ⟨xs,rfl,hq⟩:=k7 hr
 exact ⟨v,_,rfl,⟨xs,rfl,by simpa using hl,hq⟩,h1,h2⟩
theorem zct:qP enc Tryz.prog W 27 2 fun row=>∃ (ks:List jZ) (pool:List zn),row = [.sl 4 (YZ ks),.sl 6 (zF pool)]/\ks.length<=maxLen/\pool.length<=maxLen:=fun fuel cs x hx=>by
 obtain ⟨row,⟨hl,hq⟩,h1,h2,h3⟩:=qP.struct (W:=W) (enc:=enc) (Qs:=fun j c=>match j with | 0=>∃ xs:List jZ,c = .sl 4 (YZ xs)/\xs.length<=maxLen/\∀ x∈xs,x.data.length<=maxLen | 1=>∃ xs:List zn,c = .sl 6 (zF xs)/\xs.length<=maxLen/\∀ x∈xs,zd1 x | _=>True) Tryz.underlying27 (by kernel_rfl) (by kernel_rfl) (fun j f hj=>by
  match j,hj with
  | 0,hj=>cases hj;exact zcF
  | 1,hj=>cases hj;exact yJ
  | j+2,hj=>simp at hj) fuel cs x hx
 match row,h1,hq,h3 with
 | [c0,c1],_,hq,h3 =>
  obtain ⟨a,rfl,ha,_⟩:=hq 0 c0 rfl
  obtain ⟨b,rfl,hb,_⟩:=hq 1 c1 rfl
  exact ⟨_,⟨a,b,rfl,ha,hb⟩,rfl,h2,h3⟩
theorem zdk:qP enc Tryz.prog W 29 6 fun row=>∃ w:qd,row=vC w/\w.fs.xs.length<=maxLen:=fun fuel cs x hx=>by
 obtain ⟨row,⟨a,b,rfl,⟨f,rfl,hf,_⟩,⟨ks,pool,rfl,_⟩⟩,h1,h2,h3⟩:=qP.two (W:=W) (enc:=enc) Tryz.underlying29 zoJ zct rfl (by kernel_rfl) rfl (by kernel_rfl) (by kernel_rfl) fuel cs x hx
 exact ⟨_,⟨⟨f,ks,pool⟩,rfl,hf⟩,h1,h2,h3⟩
end
end
section
open CA CB
open Go.RowKit
section
variable {G:zk}
end
end
section
open CA CB
open Go.RowKit
section
variable {G:zk}
end
end
section
open CA CB
open Go.RowKit
section
variable {G:zk}
end
end
section
open CA CB
open Go.RowKit
end
section
open CA CB
open Go.RowKit
end
section
open CA CB
open Go.RowKit
theorem zmm {f:FsV} (hf:FsI f) (p:List UInt8):(atV f p).1.ino≠0->zw (atV f p).1.ino f.xs=true:=by
 unfold atV
 split
 ·exact MI hf (zg p) ⟨0,[],1⟩ fun _=>hf.root
 ·intro h;exact absurd rfl h
theorem zjQ {f:FsV} (hf:FsI f) (p:List UInt8):zw (atV f p).1.ino f.xs = !decide ((atV f p).1.ino=0):=by
 by_cases h:(atV f p).1.ino=0
 ·rw[decide_eq_true h]
  cases hh:zw (atV f p).1.ino f.xs with
  | false=>rfl
  | true=>exact absurd h (Qj hf hh)
 ·rw[zmm hf p h,decide_eq_false h];rfl
theorem zhZ (f:FsV) (hf:FsI f) (hs:FsS f) (p:List UInt8) (hp:p.length<=1000000):Fun Tryz.prog G0 224 [.agg (fsC f),.str p] (.tup [.agg (jI (isV f p false).1),.sc (.int .i64 (isV f p false).2.2)]) 0:=by
 have h1:=vy f hf hs p hp
 have hi:=zjQ hf p
 have e1:(isV f p false).1=(atV f p).1:=rfl
 by_cases h0:(atV f p).2=0
 ·have h0':=eq_true h0
  by_cases hz:(atV f p).1.ino=0
  ·have hz':=eq_true hz
   rw[decide_eq_true hz]at hi
   have e3:(isV f p false).2.2=0:=by unfold isV;simp[h0,hi]
   refine fon Tryz.func224 ?_;dsimp only[Tryz.f224]
   push_cast -dsimp
   refine cl (h1) ?_;push_cast -dsimp [h0',hz']
   exact dn (by push_cast -dsimp [zb,za,CLe,ze,e1,e3])
  ·have hz':=eq_false hz
   rw[decide_eq_false hz]at hi
   have e3:(isV f p false).2.2=2:=by unfold isV;simp[h0,hi]
   refine fon Tryz.func224 ?_;dsimp only[Tryz.f224]
   push_cast -dsimp
   refine cl (h1) ?_;push_cast -dsimp [h0',hz']
   exact dn (by push_cast -dsimp [zb,za,CLe,ze,e1,e3])
 ·have h0':=eq_false h0
  have e3:(isV f p false).2.2=(atV f p).2:=by unfold isV;simp[h0]
  refine fon Tryz.func224 ?_;dsimp only[Tryz.f224]
  push_cast -dsimp
  refine cl (h1) ?_;push_cast -dsimp [h0']
  exact dn (by push_cast -dsimp [zb,za,CLe,ze,e1,e3])
structure znd (w:qd):Prop where
 fs:FsS w.fs
 next:zhY w.fs
 kept:w.kept.length<=10000
 pool:w.pool.length<=10000
theorem zgr (w:qd) (hw:x8 w) (hs:znd w) (p:List UInt8) (hp:p.length<=1000000) (hpl:qc p=true) (k:Int) (t:List UInt8) (ht:t.length<=10000):Fun Tryz.prog G0 187 [N0 w,.str p,.sc (.int .i64 k),.str t] (.tup [N0 (qh w p k t).1,.sc (.int .i64 (qh w p k t).2)]) 0:=by
 have h1:=zhZ w.fs hw.fs hs.fs p hp
 by_cases h0:(isV w.fs p false).2.2=0
 ·have h0':=eq_true h0
  have hfr:=kR hw.fs hpl h0
  have hln:=znm hw.fs hpl (zkE h0)
  have hln:(isV w.fs p false).1.name.length<=300:=hln
  have hc:=zal w.fs hw.fs hs.fs hs.next (isV w.fs p false).1 hfr (by omega) k t (by omega)
  have e:qh w p k t=({ w with fs:=(Yx w.fs (isV w.fs p false).1 k t).1 },(Yx w.fs (isV w.fs p false).1 k t).2):=by unfold qh;rw[if_neg (by simp[h0])]
  refine fon Tryz.func187 ?_;dsimp only[Tryz.f187]
  push_cast -dsimp
  refine cl (h1) ?_;push_cast -dsimp [h0']
  refine cl (hc) ?_;push_cast -dsimp
  exact dn (by push_cast -dsimp [zb,za,CLe,ze,e])
 ·have h0':=eq_false h0
  have e:qh w p k t=(w,(isV w.fs p false).2.2):=by unfold qh;rw[if_pos h0]
  refine fon Tryz.func187 ?_;dsimp only[Tryz.f187]
  push_cast -dsimp
  refine cl (h1) ?_;push_cast -dsimp [h0']
  exact dn (by push_cast -dsimp [zb,za,CLe,ze,e])
end
section
open CA CB
open Go.RowKit
end
section
open CA CB
open Go.RowKit
theorem zfd (w:qd) (hw:x8 w) (hs:znd w) (o:OpV) (ho:zjx o) (pa:qc o.a=true):Fun Tryz.prog G0 186 [N0 w,.agg (opL o)] (.tup [N0 (qh w o.a 2 []).1,.sc (.int .i64 (qh w o.a 2 []).2)]) 0:=by
 have h:=zgr w hw hs o.a ho.1 pa 2 [] (by simp)
 unfold opL
 refine fon Tryz.func186 ?_;dsimp only[Tryz.f186]
 push_cast -dsimp
 refine cl (h) ?_;push_cast -dsimp
 exact dn
end
section
open Go.RowKit
section
variable {G:zk}
abbrev znl:List C:=[.clo (.func 186) [] [],.clo (.func 188) [] [],.clo (.func 189) [] [],.clo (.func 190) [] [],.clo (.func 191) [] [],.clo (.func 192) [] [],.clo (.func 193) [] [],.clo (.func 197) [] [],.clo (.func 200) [] [],.clo (.func 201) [] []]
theorem zd7:Fun Tryz.prog G 160 [] (.mo 0 196 (.int .i64 [1,2,3,4,5,6,7,8,9,10]) znl) 1:=by
 refine fon Tryz.func160 ?_;dsimp only[Tryz.f160]
 push_cast -dsimp [UL,UD,Option.map_none,List.nil_append,List.cons_append,reduceIte,Int.reduceEq]
 exact ⟨[.inl 0],rfl,rfl,by push_cast -dsimp [zb,za,CLe,ze]⟩
end
end
section
open CA CB
open Go.RowKit
theorem Fun.g0 {P:Program} {G':zk} {f:FuncId} {args:List C} {r:C} {n:Nat} (h:Fun P G0 f args r n):Fun P G' f args r n:=⟨h.1,fun R vs hg hv=>h.2 R vs (yc R) hv⟩
end
section
open Go.RowKit
section
variable {G:zk}
theorem GV (o:OpV):Fun Tryz.prog G 110 [.agg (opL o)] (.sc (.bool (decide (o.kind=3∨o.kind=7)))) 0:=by
 unfold opL
 by_cases h:o.kind=3
 ·have h':=eq_true h
  refine fon Tryz.func110 ?_;dsimp only[Tryz.f110]
  push_cast -dsimp [h']
  exact dn (by push_cast -dsimp [zb,za,CLe,ze,h',true_or,decide_true])
 ·have h':=eq_false h
  refine fon Tryz.func110 ?_;dsimp only[Tryz.f110]
  push_cast -dsimp [h']
  exact dn (by push_cast -dsimp [zb,za,CLe,ze,h',false_or])
end
end
section
open Go.RowKit
abbrev zm7 (d:zr):List C:=[.sc (.int .i64 d.w.fs.maxI),.sc (.int .i64 d.w.fs.maxB),.sc (.int .i64 d.w.fs.next),.sl 6 (zF d.w.fs.xs),.sl 4 (YZ d.w.kept),.sl 6 (zF d.w.pool),.sl 5 (d.ops.map opL),.sl 1 (zx d.diags),.sc (.int .i64 d.status),.sc (.int .i64 d.slot)]
abbrev Ur (d:zr):C:=.agg (zm7 d)
section
variable {G:zk}
end
end
section
open CA CB
open Go.RowKit
theorem ux {α κ:Type} [DecidableEq κ] {key:α->κ} {n:κ} {xs:List α} {i:Nat} (h:i<xs.length) (h0:Qe key n (xs.take i)=false) :
  (key xs[i]=n->jT key n xs=some xs[i])/\(key xs[i]≠n->Qe key n (xs.take (i+1))=false):=by
 have e:xs=xs.take i++xs[i] :: xs.drop (i+1):=by rw[←List.drop_eq_getElem_cons h,List.take_append_drop]
 refine ⟨fun hk=>?_,fun hk=>?_⟩
 ·have q:jT key n xs=jT key n (xs.take i++xs[i] :: xs.drop (i+1)):=congrArg _ e
  rw[q]
  unfold jT
  unfold Qe at h0
  rw[List.any_eq_false]at h0
  rw[List.find?_append,List.find?_eq_none.2 fun x hx=>h0 x hx,Option.none_or,List.find?_cons,decide_eq_true hk]
 ·unfold Qe at h0 ⊢
  rw[List.take_add_one,List.getElem?_eq_getElem h,List.any_append,h0]
  simp[hk]
theorem zin {α κ:Type} [DecidableEq κ] {key:α->κ} {n:κ} {xs:List α} (h0:Qe key n xs=false):jT key n xs=none:=by
 rw[js]at h0
 cases h:jT key n xs with
 | none=>rfl
 | some x=>rw[h]at h0;cases h0
theorem u7 {α κ:Type} [DecidableEq κ] {key:α->κ} {n:κ} {xs:List α} {i:Nat} (h:i<xs.length) :
  Ya key n (xs.take (i+1))=if key xs[i]=n then Ya key n (xs.take i) else Ya key n (xs.take i)++[xs[i]]:=by
 unfold Ya
 rw[List.take_add_one,List.getElem?_eq_getElem h,List.filter_append]
 by_cases hk:key xs[i]=n<;>simp[hk]
theorem ziX (a b:List UInt8):(Op.bytesLess a b||decide (a=b)) = !Op.bytesLess b a:=by
 cases h:Op.bytesLess b a with
 | true =>
  have h1:Op.bytesLess a b=false:=jk.asym h
  have h2:a≠b:=fun e=>by rw[e,Xd]at h;cases h
  rw[h1,decide_eq_false h2];rfl
 | false =>
  cases h1:Op.bytesLess a b with
  | true=>rfl
  | false=>rw[decide_eq_true (VO h1 h)];rfl
section
variable {G:zk}
theorem Na (es:List zK) (n:List UInt8) (hl:es.length<=100000):Fun Tryz.prog G 148 [.sl 2 (zG es),.str n] (.tup [.sc (.int .i64 (zC n es)),.sc (.bool (X8 n es))]) 0:=by
 have hll:(zG es).length=es.length:=List.length_map ..
 refine fon Tryz.func148 ?_;dsimp only[Tryz.f148]
 push_cast -dsimp
 refine loop (fun i:Nat=>⟨[(0,.sl 2 (zG es)),(1,.str n),(6,.sc (.int .i64 i))],[],0,0⟩) (fun i=>i<=es.length/\Qe zK.name n (es.take i)=false) (fun i=>es.length-i) 0 ⟨Nat.zero_le _,rfl⟩ ?_ ?_
 ·exact wk
 ·rintro i ⟨h1,h2⟩
  by_cases h:i<es.length
  ·have g1:=jx es i h
   obtain ⟨q1,q2⟩:=ux h h2
   by_cases he:es[i].name=n
   ·have q:=q1 he
    have e1:X8 n es=true:=by unfold X8;rw[js,q];rfl
    have e2:zC n es=es[i].ino:=by unfold zC;rw[q]
    push_cast -dsimp [hll,h,g1,he]
    repeat refine an ?_
    exact dn (by push_cast -dsimp [zb,za,CLe,ze,e1,e2])
   ·push_cast -dsimp [hll,h,g1,he]
    repeat refine an ?_
    exact ⟨i+1,⟨h,q2 he⟩,by omega,wk⟩
  ·rw[List.take_of_length_le (by omega)]at h2
   have e1:X8 n es=false:=h2
   have e2:zC n es=0:=by unfold zC;rw[zin h2]
   push_cast -dsimp [hll,h]
   exact dn (by push_cast -dsimp [zb,za,CLe,ze,e1,e2])
theorem Ma (es:List zK) (n:List UInt8) (hl:es.length<=90000):Fun Tryz.prog G 139 [.sl 2 (zG es),.str n] (.own 0 141 2 (zG (qL n es))) 1:=by
 have hll:(zG es).length=es.length:=List.length_map ..
 refine fon Tryz.func139 ?_;dsimp only[Tryz.f139]
 push_cast -dsimp
 refine loop (fun i:Nat=>⟨[(0,.sl 2 (zG es)),(1,.str n),(5,.own 0 141 2 (zG (qL n (es.take i)))),(6,.sc (.int .i64 i))],[],1,0⟩) (fun i=>i<=es.length) (fun i=>es.length-i) 0 (Nat.zero_le _) ?_ ?_
 ·exact wks [.inr (141,2)] (by push_cast -dsimp [zb,za,CLe,ze,qL,Ya,List.filter_nil])
 ·intro i h1
  by_cases h:i<es.length
  ·have g1:=jx es i h
   have ht:qL n (es.take (i+1))=if es[i].name=n then qL n (es.take i) else qL n (es.take i)++[es[i]]:=u7 h
   have hle:(qL n (es.take i)).length<=i:=Nat.le_trans (VI n _) (by simp;omega)
   by_cases hc:es[i].name=n
   ·rw[if_pos hc]at ht
    push_cast -dsimp [hll,h,g1,hc]
    repeat refine an ?_
    exact ⟨i+1,h,by omega,wks [.inl 0] (by push_cast -dsimp [zb,za,CLe,ze,ht])⟩
   ·rw[if_neg hc]at ht
    push_cast -dsimp [hll,h,g1,hc]
    repeat refine an ?_
    exact ⟨i+1,h,by omega,wks [.inl 0] (by push_cast -dsimp [zb,za,CLe,ze,ht,List.map_append])⟩
  ·rw[List.take_of_length_le (by omega)]
   push_cast -dsimp [hll,h]
   exact ⟨[.inl 0],rfl,rfl,by push_cast -dsimp [zb,za,CLe,ze]⟩
theorem zcy (es:List zK) (n:List UInt8) (j:Int) (hl:es.length<=90000):Fun Tryz.prog G 138 [.sl 2 (zG es),.str n,.sc (.int .i64 j)] (.own 0 141 2 (zG (z7 n j es))) 1:=by
 have hdl:(qL n es).length<=90000:=Nat.le_trans (VI n _) hl
 have hl2:(zG (qL n es)).length=(qL n es).length:=List.length_map ..
 refine fon Tryz.func138 ?_;dsimp only[Tryz.f138]
 push_cast -dsimp
 refine cl (Ma es n hl) ?_;push_cast -dsimp
 show zci _ _ _ _ _ _
 have hw:z7 n j es=Qh jk zK.name ⟨n,j⟩ (qL n es):=rfl
 rw[hw]
 generalize qL n es=rest at hdl hl2
 refine loop (fun p:Nat×List zK×Bool=>⟨[(1,.str n),(2,.sc (.int .i64 j)),(7,.sl 2 (zG rest)),(8,.own 0 141 2 (zG p.2.1)),(9,.sc (.bool p.2.2)),(10,.sc (.int .i64 p.1))],[],1,0⟩)
  (fun p=>p.1<=rest.length/\p.2.1.length<=p.1+p.2.2.toNat/\Qh jk zK.name ⟨n,j⟩ rest=p.2.1++(if p.2.2 then rest.drop p.1 else Qh jk zK.name ⟨n,j⟩ (rest.drop p.1))) (fun p=>rest.length-p.1) (0,[],false) ⟨Nat.zero_le _,Nat.zero_le _,by simp⟩ ?_ ?_
 ·exact wks [.inr (141,2)]
 ·rintro ⟨i,out,d⟩ ⟨h1,h2,h3⟩
  dsimp only at h1 h2 h3 ⊢
  have hlo:(zG out).length=out.length:=List.length_map ..
  by_cases h:i<rest.length
  ·have g1:=jx rest i h
   rw[List.drop_eq_getElem_cons h]at h3
   cases d with
   | true =>
    simp only[Bool.toNat_true]at h2
    push_cast -dsimp [hl2,h,g1]
    repeat refine an ?_
    exact ⟨(i+1,out++[rest[i]],true),⟨h,by simp;omega,by rw[h3];simp⟩,by dsimp only;omega,wks [.inl 0] (by push_cast -dsimp [zb,za,CLe,ze,List.map_append])⟩
   | false =>
    simp only[Bool.false_eq_true,if_false,Qh]at h3
    simp only[Bool.toNat_false]at h2
    have hgl:=ziX rest[i].name n
    cases hc:Op.bytesLess n rest[i].name with
    | true =>
     rw[if_pos (show jk.lt n rest[i].name=true from hc)]at h3
     rw[hc]at hgl
     push_cast -dsimp [hl2,h,g1,hgl]
     repeat refine an ?_
     exact ⟨(i+1,out++[(⟨n,j⟩:zK)]++[rest[i]],true),⟨h,by simp;omega,by rw[h3];simp⟩,by dsimp only;omega,wks [.inl 0] (by push_cast -dsimp [zb,za,CLe,ze,List.map_append])⟩
    | false =>
     rw[if_neg (show ¬jk.lt n rest[i].name=true by rw[show jk.lt n rest[i].name=false from hc];decide)]at h3
     rw[hc]at hgl
     push_cast -dsimp [hl2,h,g1,hgl]
     repeat refine an ?_
     exact ⟨(i+1,out++[rest[i]],false),⟨h,by simp;omega,by rw[h3];simp⟩,by dsimp only;omega,wks [.inl 0] (by push_cast -dsimp [zb,za,CLe,ze,List.map_append])⟩
  ·rw[List.drop_of_length_le (by omega)]at h3
   cases d with
   | true =>
    simp only[Bool.toNat_true]at h2
    have h3:Qh jk zK.name ⟨n,j⟩ rest=out:=by rw[h3];simp
    push_cast -dsimp [hl2,h]
    exact ⟨[.inl 0],rfl,rfl,by push_cast -dsimp [zb,za,CLe,ze,h3]⟩
   | false =>
    simp only[Bool.toNat_false]at h2
    have h3:Qh jk zK.name ⟨n,j⟩ rest=out++[⟨n,j⟩]:=by rw[h3];simp[Qh]
    push_cast -dsimp [hl2,h]
    repeat refine an ?_
    exact ⟨[.inl 0],rfl,rfl,by push_cast -dsimp [zb,za,CLe,ze,h3,List.map_append]⟩
theorem GG (f:FsV) (hf:FsS f) (n b:Int) (hn:-1000000000<=n/\n<=1000000000) (hb:-1000000000<=b/\b<=1000000000):Fun Tryz.prog G 142 [.agg (fsC f),.sc (.int .i64 n),.sc (.int .i64 b)] (.sc (.bool (j3 f n b))) 0:=by
 have hll:(zF f.xs).length=f.xs.length:=List.length_map ..
 have h40:=hf.len
 have hbb:=hf.bytes
 have hbf:=GM (G:=G) f hf
 by_cases h:(f.xs.length:Int)+n<=f.maxI
 ·have e:j3 f n b=decide ((zV f.xs:Int)+b<=f.maxB):=by unfold j3;rw[decide_eq_true h,Bool.true_and]
  have h':(f.maxI<(f.xs.length:Int)+n)=False:=eq_false (by omega)
  refine fon Tryz.func142 ?_;dsimp only[Tryz.f142]
  push_cast -dsimp [hll,h']
  repeat refine an ?_
  refine cl (hbf) ?_;push_cast -dsimp
  repeat refine an ?_
  exact dn (by push_cast -dsimp [zb,za,CLe,ze,e])
 ·have e:j3 f n b=false:=by unfold j3;rw[decide_eq_false h,Bool.false_and]
  have h':(f.maxI<(f.xs.length:Int)+n)=True:=eq_true (by omega)
  refine fon Tryz.func142 ?_;dsimp only[Tryz.f142]
  push_cast -dsimp [hll,h']
  repeat refine an ?_
  exact dn (by push_cast -dsimp [zb,za,CLe,ze,e])
end
theorem zk8 (f:FsV) (hf:FsI f) (hs:FsS f) (p:List UInt8) (hp:p.length<=1000000):Fun Tryz.prog G0 137 [.agg (fsC f),.str p] (.tup [.agg (jI (atV f p).1),.sc (.int .i64 (atV f p).2)]) 0:=by
 have hpl:=ZQ p (by omega)
 have hlen:=hs.len
 have hnl:(zg p).length<=1000000:=by have:=zS p;omega
 cases hpp:Jw p with
 | false =>
  have e:atV f p=(zU,9):=by unfold atV;rw[hpp];rfl
  unfold JP at hpl
  rw[hpp]at hpl
  refine fof (fun i=>if i=14 then [false,false,false,false,false,false,false,false,true] else []) Tryz.func137 ?_;dsimp only[Tryz.f137]
  push_cast -dsimp
  refine cl (hpl) ?_;push_cast -dsimp
  exact dn (by push_cast -dsimp [zb,za,CLe,ze,e,zU])
 | true =>
  have e:atV f p=atW f.xs (zg p) ⟨0,[],1⟩:=by unfold atV;rw[hpp];rfl
  unfold JP at hpl
  rw[hpp,if_pos rfl]at hpl
  generalize zg p=ns at hpl hnl e
  have hsl:(zx ns).length=ns.length:=List.length_map ..
  refine fof (fun i=>if i=14 then [false,false,false,false,false,false,false,false,true] else []) Tryz.func137 ?_;dsimp only[Tryz.f137]
  push_cast -dsimp
  refine cl (hpl) ?_;push_cast -dsimp
  refine loop (fun x:Nat×zT=>⟨[(1,.str p),(2,.ptr 0 0),(4,.ptr 1 0),(6,.own 0 9 1 (zx ns)),(8,.ptr 2 0),(9,.sc (.int .i64 x.1))],[fsC f,[.sc (.int .i64 0),.str [],.sc (.int .i64 0)],jI x.2],1,0⟩)
   (fun x=>x.1<=ns.length/\atW f.xs ns ⟨0,[],1⟩=atW f.xs (ns.drop x.1) x.2/\(x.2.ino≠0->zw x.2.ino f.xs=true)) (fun x=>ns.length-x.1) (0,⟨0,[],1⟩) ⟨Nat.zero_le _,rfl,fun _=>hf.root⟩ ?_ ?_
  ·exact wks [.inl 0] (by push_cast -dsimp [zb,za,CLe,ze,hsl])
  rintro ⟨k,s⟩ ⟨hk,hat,hin⟩
  simp only at hk hat hin ⊢
  by_cases hlt:k<ns.length
  ·have gs:=NG hlt
   have hdr:ns.drop k=ns[k] :: ns.drop (k+1):=List.drop_eq_getElem_cons hlt
   obtain ⟨nm,hnm⟩:∃ nm,ns[k]=nm:=⟨_,rfl⟩
   rw[hnm]at gs hdr
   by_cases h0:s.ino=0
   ·have hr:atV f p=(zU,1):=by rw[e,hat,hdr];unfold atW;rw[if_pos h0]
    push_cast -dsimp [hsl,hlt,h0]
    exact dn (by push_cast -dsimp [zb,za,CLe,ze,hr,zU])
   ·have hh:=hin h0
    have hg:=jb (G:=G0) f s.ino (by omega)
    have hgg:=zq hh
    rw[hh]at hg
    by_cases hk2:(zf s.ino f.xs).kind=2
    ·have hfd:=Na (G:=G0) (zf s.ino f.xs).es nm (by have:=hs.es hh;omega)
     have hnx:atW f.xs ns ⟨0,[],1⟩=atW f.xs (ns.drop (k+1)) ⟨(zf s.ino f.xs).ino,nm,zC nm (zf s.ino f.xs).es⟩:=by
      rw[hat,hdr]
      conv=>lhs;unfold atW
      rw[if_neg h0,if_neg (by simp[hk2])]
     have hin2:zC nm (zf s.ino f.xs).es≠0->zw (zC nm (zf s.ino f.xs).es) f.xs=true:=fun hne=>by
      refine Ue hf hh ?_
      unfold X8
      rw[js]
      cases hq:jT zK.name nm (zf s.ino f.xs).es with
      | some e=>rfl
      | none=>unfold zC at hne;rw[hq]at hne;exact absurd rfl hne
     push_cast -dsimp [hsl,hlt,h0]
     refine cl (hg) ?_;push_cast -dsimp [hk2,gs]
     repeat refine an ?_
     refine cl (hfd) ?_;push_cast -dsimp [gs]
     repeat refine an ?_
     exact ⟨(k+1,⟨(zf s.ino f.xs).ino,nm,zC nm (zf s.ino f.xs).es⟩),⟨hlt,hnx,hin2⟩,by simp only;omega,wks [.inl 0]⟩
    ·have hr:atV f p=(zU,3):=by rw[e,hat,hdr];unfold atW;rw[if_neg h0,if_pos hk2]
     push_cast -dsimp [hsl,hlt,h0]
     refine cl (hg) ?_;push_cast -dsimp [hk2]
     exact dn (by push_cast -dsimp [zb,za,CLe,ze,hr,zU])
  ·have hd0:ns.drop k = []:=List.drop_of_length_le (by omega)
   have hr:atV f p=(s,0):=by rw[e,hat,hd0];rfl
   push_cast -dsimp [hsl,hlt]
   exact dn (by push_cast -dsimp [zb,za,CLe,ze,hr])
end
section
open CA CB
open Go.RowKit
theorem zis {f:C} {x:zn} (hx:x.es = []) (R:Env) (vs:List Value) (h:zm R zu [f,.agg [.sc (.int .i64 x.ino),.sc (.int .i64 x.kind),.sc (.int .i64 x.links),.str x.data,.sc (.int .i64 x.parent),.sc (.slice none 0 0)]] vs):zm R zu [f,.agg (JJ x)] vs:=by
 obtain ⟨v1,us1,rfl,h1,h⟩:=zd.1 h
 obtain ⟨v2,us2,rfl,h2,h⟩:=zd.1 h
 refine zd.2 ⟨_,_,rfl,h1,zd.2 ⟨_,_,rfl,?_,h⟩⟩
 obtain ⟨ws,rfl,hw⟩:=jj.1 h2
 obtain ⟨w1,t1,e1,g1,hw⟩:=zd.1 hw
 obtain ⟨w2,t2,e2,g2,hw⟩:=zd.1 hw
 obtain ⟨w3,t3,e3,g3,hw⟩:=zd.1 hw
 obtain ⟨w4,t4,e4,g4,hw⟩:=zd.1 hw
 obtain ⟨w5,t5,e5,g5,hw⟩:=zd.1 hw
 obtain ⟨w6,t6,e6,g6,hw⟩:=zd.1 hw
 refine jj.2 ⟨ws,rfl,?_⟩
 have g6':Rep R zu (.sl 2 (zG x.es)) w6:=by rw[hx];exact yO g6
 rw[e1,e2,e3,e4,e5,e6]
 exact zd.2 ⟨_,_,rfl,g1,zd.2 ⟨_,_,rfl,g2,zd.2 ⟨_,_,rfl,g3,zd.2 ⟨_,_,rfl,g4,zd.2 ⟨_,_,rfl,g5,zd.2 ⟨_,_,rfl,g6',hw⟩⟩⟩⟩⟩⟩
theorem ziG {G:zk} (f:FsV) (x:zn) (hx:x.es = []) (hl:f.xs.length<=90000) :
  Fun Tryz.prog G 97 [.agg (fsC f),.agg [.sc (.int .i64 x.ino),.sc (.int .i64 x.kind),.sc (.int .i64 x.links),.str x.data,.sc (.int .i64 x.parent),.sc (.slice none 0 0)]] (.agg [.sc (.int .i64 f.maxI),.sc (.int .i64 f.maxB),.sc (.int .i64 f.next),.own 0 96 6 (zF (jq x f.xs))]) 1:=
 (vh f x hl).argsLe (zis hx)
theorem MP (f:FsV) (hf:FsI f) (hs:FsS f) (hn:zhY f) (s:zT) (hsp:ZT f s) (hnl:s.name.length<=100000) (k:Int) (t:List UInt8) (ht:t.length<=100000) :
  Fun Tryz.prog G0 131 [.agg (fsC f),.agg (jI s),.sc (.int .i64 k),.str t] (.tup [.agg (fsC (Yx f s k t).1),.sc (.int .i64 (Yx f s k t).2)]) 0:=by
 have hm:=Xy s.name (by omega)
 have hlen:=hs.len
 cases hmay:may s.name with
 | false =>
  have e:Yx f s k t=(f,9):=by unfold Yx;rw[hmay];rfl
  rw[hmay]at hm
  refine fof (fun j=>if j=13 then [false,false,false,false,false,true] else []) Tryz.func131 ?_;dsimp only[Tryz.f131]
  push_cast -dsimp
  refine cl (hm) ?_;push_cast -dsimp
  exact dn (by push_cast -dsimp [zb,za,CLe,ze,e])
 | true =>
  rw[hmay]at hm
  have key:∀ b:Int,(if k=1 then (t.length:Int) else 0)=b->j3 f 1 b=false->Yx f s k t=(f,8):=fun b hb hr=>by unfold Yx;rw[hmay,if_pos rfl,hb,hr];rfl
  have key2:∀ b:Int,(if k=1 then (t.length:Int) else 0)=b->j3 f 1 b=true->Yx f s k t=(Un f s k t,0):=fun b hb hr=>by unfold Yx;rw[hmay,if_pos rfl,hb,hr];rfl
  have hg:=jb (G:=G0) f s.dir (by omega)
  rw[hsp.has]at hg
  have hes:=hs.es hsp.has
  have hw:=zcy (G:=G0) (zf s.dir f.xs).es s.name f.next (by omega)
  have hd1:=vh (G:=G0) f (jV (zf s.dir f.xs) (z7 s.name f.next (zf s.dir f.xs).es)) (by omega)
  have hdl:(Y2 s.dir (z7 s.name f.next) f.xs).length=f.xs.length:=HU hf.rises hsp.has
  have hd2:=fun pr:Int=>ziG (G:=G0) ⟨f.maxI,f.maxB,f.next,Y2 s.dir (z7 s.name f.next) f.xs⟩ ⟨f.next,k,1,t,pr,[]⟩ rfl (by simp only;omega)
  have hn1:=hn.1
  have hn2:=hn.2
  have hx0:k=2->Un f s k t=⟨f.maxI,f.maxB,f.next+1,jq ⟨f.next,k,1,t,s.dir,[]⟩ (Y2 s.dir (z7 s.name f.next) f.xs)⟩:=fun h=>by unfold Un;rw[if_pos h]
  have hx1:k≠2->Un f s k t=⟨f.maxI,f.maxB,f.next+1,jq ⟨f.next,k,1,t,0,[]⟩ (Y2 s.dir (z7 s.name f.next) f.xs)⟩:=fun h=>by unfold Un;rw[if_neg h]
  unfold Y2 at hd2 hx0 hx1
  by_cases hk:k=1
  ·have hk':=eq_true hk
   have hk2:(k=2)=False:=eq_false (by omega)
   have hr:=GG (G:=G0) f hs 1 t.length (by omega) (by omega)
   cases hrm:j3 f 1 t.length with
   | false =>
    have e:=key _ (if_pos hk) hrm
    rw[hrm]at hr
    refine fof (fun j=>if j=13 then [false,false,false,false,false,true] else []) Tryz.func131 ?_;dsimp only[Tryz.f131]
    push_cast -dsimp
    refine cl (hm) ?_;push_cast -dsimp [hk']
    refine cl (hr) ?_;push_cast -dsimp
    exact dn (by push_cast -dsimp [zb,za,CLe,ze,e])
   | true =>
    have e:=key2 _ (if_pos hk) hrm
    have ex:=hx1 (by omega)
    rw[hrm]at hr
    refine fof (fun j=>if j=13 then [false,false,false,false,false,true] else []) Tryz.func131 ?_;dsimp only[Tryz.f131]
    push_cast -dsimp
    refine cl (hm) ?_;push_cast -dsimp [hk']
    refine cl (hr) ?_;push_cast -dsimp
    refine cl (hg) ?_;push_cast -dsimp
    refine cl (hw) ?_;push_cast -dsimp [hk2]
    refine cl (hd1) ?_;push_cast -dsimp
    refine cl (hd2 0) ?_;push_cast -dsimp
    repeat refine an ?_
    exact dn (by push_cast -dsimp [zb,za,CLe,ze,e,ex])
  ·have hk':=eq_false hk
   have hr:=GG (G:=G0) f hs 1 0 (by omega) (by omega)
   cases hrm:j3 f 1 0 with
   | false =>
    have e:=key _ (if_neg hk) hrm
    rw[hrm]at hr
    refine fof (fun j=>if j=13 then [false,false,false,false,false,true] else []) Tryz.func131 ?_;dsimp only[Tryz.f131]
    push_cast -dsimp
    refine cl (hm) ?_;push_cast -dsimp [hk']
    refine cl (hr) ?_;push_cast -dsimp
    exact dn (by push_cast -dsimp [zb,za,CLe,ze,e])
   | true =>
    have e:=key2 _ (if_neg hk) hrm
    rw[hrm]at hr
    by_cases hk2:k=2
    ·have ex:=hx0 hk2
     have hk2':=eq_true hk2
     refine fof (fun j=>if j=13 then [false,false,false,false,false,true] else []) Tryz.func131 ?_;dsimp only[Tryz.f131]
     push_cast -dsimp
     refine cl (hm) ?_;push_cast -dsimp [hk']
     refine cl (hr) ?_;push_cast -dsimp
     refine cl (hg) ?_;push_cast -dsimp
     refine cl (hw) ?_;push_cast -dsimp [hk2']
     refine cl (hd1) ?_;push_cast -dsimp
     refine cl (hd2 s.dir) ?_;push_cast -dsimp
     repeat refine an ?_
     exact dn (by push_cast -dsimp [zb,za,CLe,ze,e,ex])
    ·have ex:=hx1 hk2
     have hk2':=eq_false hk2
     refine fof (fun j=>if j=13 then [false,false,false,false,false,true] else []) Tryz.func131 ?_;dsimp only[Tryz.f131]
     push_cast -dsimp
     refine cl (hm) ?_;push_cast -dsimp [hk']
     refine cl (hr) ?_;push_cast -dsimp
     refine cl (hg) ?_;push_cast -dsimp
     refine cl (hw) ?_;push_cast -dsimp [hk2']
     refine cl (hd1) ?_;push_cast -dsimp
     refine cl (hd2 0) ?_;push_cast -dsimp
     repeat refine an ?_
     exact dn (by push_cast -dsimp [zb,za,CLe,ze,e,ex])
end
section
open CA CB
open Go.RowKit
theorem Ul {ks:List jZ} {i:Nat} (h:i<ks.length):jF (ks.take (i+1))=ks[i].slot:=by
 have q:(ks.take (i+1)).getLast?=some ks[i]:=by
  rw[List.getLast?_eq_getElem?,show (ks.take (i+1)).length-1=i by rw[List.length_take];omega,List.getElem?_take_of_lt (by omega),List.getElem?_eq_getElem h]
 unfold jF
 rw[q]
section
variable {G:zk}
theorem Uw (w:qd):Fun Tryz.prog G 114 [N0 w] (.agg [.sc (.int .i64 0),.sc (.int .i64 0),.sc (.int .i64 0),.sl 6 (zF w.pool)]) 0:=by
 refine fon Tryz.func114 ?_;dsimp only[Tryz.f114]
 push_cast -dsimp
 exact dn
theorem Vz (w:qd) (hk:w.kept.length<=100000) (hR:jE zo9 jZ.slot w.kept) (hp:∀ k∈w.kept,1<=k.slot):Fun Tryz.prog G 29 [N0 w] (.sc (.int .i64 (jF w.kept))) 0:=by
 obtain ⟨f,ks,pool⟩:=w
 have hk:ks.length<=100000:=hk
 have hll:(YZ ks).length=ks.length:=List.length_map ..
 show Fun Tryz.prog G 29 [N0 ⟨f,ks,pool⟩] (.sc (.int .i64 (jF ks))) 0
 have h0:jF []=0:=rfl
 refine fon Tryz.func29 ?_;dsimp only[Tryz.f29]
 push_cast -dsimp
 refine loop (fun i:Nat=>⟨[(1,.ptr 0 0),(3,.sc (.int .i64 (jF (ks.take i)))),(4,.sc (.int .i64 i))],[vC ⟨f,ks,pool⟩],0,0⟩) (fun i=>i<=ks.length) (fun i=>ks.length-i) 0 (Nat.zero_le _) ?_ ?_
 ·exact wk (by push_cast -dsimp [zb,za,CLe,ze,List.take_zero,h0])
 ·intro i hi
  by_cases h:i<ks.length
  ·have g1:=YI ks i h
   have e1:jF (ks.take (i+1))=ks[i].slot:=Ul h
   have e2:(if ks[i].slot>jF (ks.take i) then ks[i].slot else jF (ks.take i))=ks[i].slot:=by
    suffices hle:jF (ks.take i)<=ks[i].slot by split<;>omega
    rcases Nat.eq_zero_or_pos i with rfl | hpos
    ·have:=hp _ (List.getElem_mem h)
     show (0:Int)<=_
     omega
    ·obtain ⟨j,rfl⟩:∃ j,i=j+1:=⟨i-1,by omega⟩
     have hj:j<ks.length:=by omega
     rw[Ul hj]
     have:=(List.pairwise_iff_getElem.1 hR) j (j+1) hj h (by omega)
     have:ks[j].slot<ks[j+1].slot:=of_decide_eq_true this
     omega
   push_cast -dsimp [hll,h,g1]
   repeat refine an ?_
   exact ⟨i+1,h,by omega,wk (by push_cast -dsimp [zb,za,CLe,ze,e1,e2])⟩
  ·rw[List.take_of_length_le (by omega)]
   push_cast -dsimp [hll,h]
   exact dn
end
end
section
open CA CB
open Go.RowKit
end
section
open CA CB
open Go.RowKit
def zqS (n:Int):List C:=[.sc (.int .i64 n)]
abbrev zqi (l:List Int):List (List C):=l.map zqS
theorem xy (l:List Int):(zqi l).length=l.length:=List.length_map _
theorem zeC (l:List Int) (n:Int):zqi l++[[.sc (.int .i64 n)]]=zqi (l++[n]):=by simp[zqS]
attribute [push_cast] xy zeC
abbrev zfE (l:List OpV):List (List C):=l.map opL
theorem xV (l:List OpV):(zfE l).length=l.length:=List.length_map _
theorem zdP (l:List OpV) (k:Nat) (h:k<l.length):(zfE l)[k]?=some (opL (l[k]'h)):=by rw[List.getElem?_map,List.getElem?_eq_getElem h];rfl
theorem zdZ (l:List OpV) (k:Nat):(zfE l).take k=zfE (l.take k):=List.map_take.symm
theorem ze0 (l:List OpV) (k:Nat):(zfE l).drop k=zfE (l.drop k):=List.map_drop.symm
attribute [push_cast] xV zdZ ze0
end
section
open Go.RowKit
def zjl (l:List OpV):List Int:=(l.filter fun o=>Gb o.kind).map (·.slot)
end
section
open Go.RowKit
def zkB (o p:OpV):Bool:=decide (o.kind=p.kind)&&decide (o.slot=p.slot)&&decide (o.a=p.a)&&decide (o.b=p.b)&&decide (o.d=p.d)
def JA:List OpV->List OpV->Bool
 | [],[]=>true
 | o :: r,p :: s=>zkB o p&&JA r s
 | _,_=>false
theorem YL:∀ l m:List OpV,JA l m=true↔l.length=m.length/\∀ (j:Nat) (h:j<l.length) (h':j<m.length),zkB (l[j]'h) (m[j]'h')=true
 | [],[]=>by simp[JA]
 | [],p :: s=>by simp[JA]
 | o :: r,[]=>by simp[JA]
 | o :: r,p :: s=>by
  have ih:=YL r s
  simp only[JA,Bool.and_eq_true,ih,List.length_cons]
  constructor
  ·rintro ⟨h1,h2,h3⟩
   refine ⟨by omega,fun j hj hj'=>?_⟩
   cases j with
   | zero=>exact h1
   | succ j=>exact h3 j (by omega) (by omega)
  ·rintro ⟨h1,h2⟩
   exact ⟨h2 0 (by omega) (by omega),by omega,fun j hj hj'=>h2 (j+1) (by omega) (by omega)⟩
end
section
open CA CB
open Go.RowKit
end
section
open CA CB
open Go.RowKit
end
section
open CA CB
open Go.RowKit
def jX (f:FsV):Prop:=1<=f.maxI/\f.maxI<=1073741824/\0<=f.maxB/\f.maxB<=1073741824/\f.next<=1099511627776/\(∀ x∈f.xs,1<=x.ino/\x.ino<f.next)/\z8 f.xs/\zw 1 f.xs=true/\(zf 1 f.xs).kind=2
instance (f:FsV):Decidable (jX f):=by unfold jX;infer_instance
def JR (f:FsV):Prop:=∀ x∈f.xs,∀ e∈x.es,zw e.ino f.xs=true
instance (f:FsV):Decidable (JR f):=by unfold JR;infer_instance
def UK (f:FsV):Prop:=(f.xs.length:Int)<=f.maxI/\(zV f.xs:Int)<=f.maxB
instance (f:FsV):Decidable (UK f):=by unfold UK;infer_instance
theorem zQ {α:Type} {l:List α} {i:Nat} (h:i<l.length) {P:α->Prop} (h1:∀ x∈l.take i,P x) (h2:P l[i]):∀ x∈l.take (i+1),P x:=fun x hx=>by
 rw[List.take_add_one,List.getElem?_eq_getElem h]at hx
 rcases List.mem_append.1 hx with hx | hx
 ·exact h1 x hx
 ·simp at hx;subst hx;exact h2
section
variable {G:zk}
theorem G5 (f:FsV) (hl:f.xs.length<=100000):Fun Tryz.prog G 162 [.agg (fsC f)] (.sc (.bool (decide (jX f)))) 0:=by
 have hll:(zF f.xs).length=f.xs.length:=List.length_map ..
 refine fon Tryz.func162 ?_;dsimp only[Tryz.f162]
 by_cases e0:f.maxI<1
 case pos =>
  have hn:¬jX f:=fun h=>by have:=h.1;omega
  push_cast -dsimp [e0]
  exact dn (by push_cast -dsimp [zb,za,CLe,ze,hn])
 by_cases e1:1073741824<f.maxI
 case pos =>
  have hn:¬jX f:=fun h=>by have:=h.2.1;omega
  push_cast -dsimp [e0,e1]
  exact dn (by push_cast -dsimp [zb,za,CLe,ze,hn])
 by_cases e2:f.maxB<0
 case pos =>
  have hn:¬jX f:=fun h=>by have:=h.2.2.1;omega
  push_cast -dsimp [e0,e1,e2]
  exact dn (by push_cast -dsimp [zb,za,CLe,ze,hn])
 by_cases e3:1073741824<f.maxB
 case pos =>
  have hn:¬jX f:=fun h=>by have:=h.2.2.2.1;omega
  push_cast -dsimp [e0,e1,e2,e3]
  exact dn (by push_cast -dsimp [zb,za,CLe,ze,hn])
 by_cases e4:1099511627776<f.next
 case pos =>
  have hn:¬jX f:=fun h=>by have:=h.2.2.2.2.1;omega
  push_cast -dsimp [e0,e1,e2,e3,e4]
  exact dn (by push_cast -dsimp [zb,za,CLe,ze,hn])
 push_cast -dsimp [e0,e1,e2,e3,e4]
 refine loop (fun i:Nat=>⟨[(1,.ptr 0 0),(3,.sc (.int .i64 i))],[fsC f],0,0⟩) (fun i=>i<=f.xs.length/\∀ x∈f.xs.take i,1<=x.ino/\x.ino<f.next) (fun i=>f.xs.length-i) 0 ⟨Nat.zero_le _,fun x hx=>by simp at hx⟩ ?_ ?_
 ·exact wk
 ·rintro i ⟨h1,h2⟩
  by_cases h:i<f.xs.length
  ·have g1:=qD f.xs i h
   by_cases c1:f.xs[i].ino<1
   ·have hn:¬jX f:=fun h'=>by have:=h'.2.2.2.2.2.1 _ (List.getElem_mem h);omega
    push_cast -dsimp [hll,h,g1,c1]
    repeat refine an ?_
    exact dn (by push_cast -dsimp [zb,za,CLe,ze,hn])
   ·by_cases c2:f.next<=f.xs[i].ino
    ·have hn:¬jX f:=fun h'=>by have:=h'.2.2.2.2.2.1 _ (List.getElem_mem h);omega
     push_cast -dsimp [hll,h,g1,c1,c2]
     repeat refine an ?_
     exact dn (by push_cast -dsimp [zb,za,CLe,ze,hn])
    ·push_cast -dsimp [hll,h,g1,c1,c2]
     repeat refine an ?_
     exact ⟨i+1,⟨h,zQ h h2 (by omega)⟩,by omega,wk⟩
  ·rw[List.take_of_length_le (by omega)]at h2
   have hf:jX f↔z8 f.xs/\zw 1 f.xs=true/\(zf 1 f.xs).kind=2:=⟨fun h=>h.2.2.2.2.2.2,fun h=>⟨by omega,by omega,by omega,by omega,by omega,h2,h⟩⟩
   push_cast -dsimp [hll,h]
   refine cl (jb f 1 hl) ?_;push_cast -dsimp
   by_cases c1:z8 f.xs
   ·cases c2:zw 1 f.xs with
    | true =>
     refine cl (Z6 f hl) ?_;push_cast -dsimp [decide_eq_true c1,c2]
     exact dn (by push_cast -dsimp [zb,za,CLe,ze,hf,c1,c2])
    | false =>
     have hn:¬jX f:=fun h=>by have:=(hf.1 h).2.1;rw[c2]at this;cases this
     refine cl (Z6 f hl) ?_;push_cast -dsimp [decide_eq_true c1,c2]
     exact dn (by push_cast -dsimp [zb,za,CLe,ze,hn])
   ·have hn:¬jX f:=fun h=>c1 (hf.1 h).1
    refine cl (Z6 f hl) ?_;push_cast -dsimp [decide_eq_false c1]
    exact dn (by push_cast -dsimp [zb,za,CLe,ze,hn])
theorem Md (f:FsV) (hf:FsS f):Fun Tryz.prog G 164 [.agg (fsC f)] (.sc (.bool (decide (JR f)))) 0:=by
 have hll:(zF f.xs).length=f.xs.length:=List.length_map ..
 have h40:=hf.len
 refine fof (fun i=>if i=7 then Y0 15 16 else []) Tryz.func164 ?_;dsimp only[Tryz.f164]
 push_cast -dsimp
 refine loop (fun i:Nat=>⟨[(1,.ptr 0 0),(3,.sc (.int .i64 i))],[fsC f],0,0⟩) (fun i=>i<=f.xs.length/\∀ x∈f.xs.take i,∀ e∈x.es,zw e.ino f.xs=true) (fun i=>f.xs.length-i) 0 ⟨Nat.zero_le _,fun x hx=>by simp at hx⟩ ?_ ?_
 ·exact wk
 ·rintro i ⟨h1,h2⟩
  by_cases h:i<f.xs.length
  ·have g1:=qD f.xs i h
   have he:=(hf.node _ (List.getElem_mem h)).1
   have hle:(zG f.xs[i].es).length=f.xs[i].es.length:=List.length_map ..
   push_cast -dsimp [hll,h]
   refine loop (fun k:Nat=>⟨[(1,.ptr 0 0),(3,.sc (.int .i64 i)),(4,.sc (.int .i64 k))],[fsC f],0,0⟩) (fun k=>k<=f.xs[i].es.length/\∀ e∈f.xs[i].es.take k,zw e.ino f.xs=true) (fun k=>f.xs[i].es.length-k) 0 ⟨Nat.zero_le _,fun x hx=>by simp at hx⟩ ?_ ?_
   ·exact wk
   ·rintro k ⟨h3,h4⟩
    by_cases hk:k<f.xs[i].es.length
    ·have g2:=jx f.xs[i].es k hk
     push_cast -dsimp [g1,hle,hk,g2]
     repeat refine an ?_
     refine cl (jb f f.xs[i].es[k].ino (by omega)) ?_;push_cast -dsimp
     cases hh:zw f.xs[i].es[k].ino f.xs with
     | true =>
      push_cast -dsimp [hh]
      repeat refine an ?_
      exact ⟨k+1,⟨hk,zQ hk h4 hh⟩,by omega,wk⟩
     | false =>
      have hn:¬JR f:=fun h'=>by have:=h' _ (List.getElem_mem h) _ (List.getElem_mem hk);rw[hh]at this;cases this
      push_cast -dsimp [hh]
      exact dn (by push_cast -dsimp [zb,za,CLe,ze,hn])
    ·rw[List.take_of_length_le (by omega)]at h4
     push_cast -dsimp [g1,hle,hk]
     repeat refine an ?_
     exact ⟨i+1,⟨h,zQ h h2 h4⟩,by omega,wk⟩
  ·rw[List.take_of_length_le (by omega)]at h2
   have hn:JR f:=h2
   push_cast -dsimp [hll,h]
   exact dn (by push_cast -dsimp [zb,za,CLe,ze,hn])
theorem yI (f:FsV) (hf:FsS f) (hb:zV f.xs<=100000000):Fun Tryz.prog G 142 [.agg (fsC f),.sc (.int .i64 0),.sc (.int .i64 0)] (.sc (.bool (decide (UK f)))) 0:=by
 have hll:(zF f.xs).length=f.xs.length:=List.length_map ..
 have h40:=hf.len
 refine fon Tryz.func142 ?_;dsimp only[Tryz.f142]
 by_cases c1:f.maxI<f.xs.length
 ·have hn:¬UK f:=fun h=>by have:=h.1;omega
  push_cast -dsimp [hll,c1]
  repeat refine an ?_
  exact dn (by push_cast -dsimp [zb,za,CLe,ze,hn])
 ·have hn:UK f↔(zV f.xs:Int)<=f.maxB:=⟨fun h=>h.2,fun h=>⟨by omega,h⟩⟩
  push_cast -dsimp [hll,c1]
  repeat refine an ?_
  refine cl (GM f hf) ?_;push_cast -dsimp
  repeat refine an ?_
  exact dn (by push_cast -dsimp [zb,za,CLe,ze,hn])
end
end
section
open Go.RowKit
abbrev Q8 (x:zn) (es:List zK):List (Int×Int):=es.map fun e=>(e.ino,x.ino)
def zP (xs:List zn):List (Int×Int):=xs.flatMap fun x=>Q8 x x.es
def Qg (n:Int) (l:List (Int×Int)):Nat:=(l.filter fun p=>p.1==n).length
def ZX (n:Int) (l:List (Int×Int)):Int:=(((l.filter fun p=>p.1==n).getLast?).map (·.2)).getD 0
theorem zjK {n:Int} {l:List (Int×Int)} {p:Int×Int}:Qg n (l++[p])=Qg n l+if p.1=n then 1 else 0:=by
 unfold Qg
 rw[List.filter_append,List.length_append]
 by_cases h:p.1=n<;>simp[h]
theorem zhO {n:Int} {l:List (Int×Int)} {p:Int×Int}:ZX n (l++[p])=if p.1=n then p.2 else ZX n l:=by
 unfold ZX
 rw[List.filter_append]
 by_cases h:p.1=n<;>simp[h]
theorem zbl {xs:List zn} {i:Nat} (h:i<xs.length):zP (xs.take (i+1))=zP (xs.take i)++Q8 xs[i] xs[i].es:=by
 unfold zP
 rw[List.take_add_one,List.getElem?_eq_getElem h,List.flatMap_append]
 simp
theorem zbb {x:zn} {es:List zK} {k:Nat} (h:k<es.length):Q8 x (es.take (k+1))=Q8 x (es.take k)++[(es[k].ino,x.ino)]:=by
 rw[List.take_add_one,List.getElem?_eq_getElem h,Option.toList_some]
 exact List.map_append
theorem zfi {xs:List zn} (hf:∀ x∈xs,x.es.length<=10000):(zP xs).length<=xs.length*10000:=by
 induction xs with
 | nil=>exact Nat.le_refl _
 | cons x r ih =>
  have h1:=hf x List.mem_cons_self
  have h2:=ih fun y hy=>hf y (List.mem_cons_of_mem _ hy)
  unfold zP at h2 ⊢
  rw[List.flatMap_cons,List.length_append,List.length_map,List.length_cons]
  omega
theorem zm0 {n:Int} {l:List (Int×Int)}:Qg n l<=l.length:=List.length_filter_le _ _
def Zi (xs:List zn) (x:zn):Prop:=x.links=Qg x.ino (zP xs)/\if x.ino=1 then Qg x.ino (zP xs)=0/\x.parent=1 else 1<=Qg x.ino (zP xs)/\(x.kind=2->Qg x.ino (zP xs)=1/\x.parent=ZX x.ino (zP xs))
instance (xs:List zn) (x:zn):Decidable (Zi xs x):=by unfold Zi;infer_instance
def Yb (f:FsV):Prop:=∀ x∈f.xs,Zi f.xs x
instance (f:FsV):Decidable (Yb f):=by unfold Yb;infer_instance
section
variable {G:zk}
theorem zap (f:FsV) (n:Int) (hf:FsS f):Fun Tryz.prog G 203 [.agg (fsC f),.sc (.int .i64 n)] (.tup [.sc (.int .i64 (Qg n (zP f.xs):Nat)),.sc (.int .i64 (ZX n (zP f.xs)))]) 0:=by
 have hll:(zF f.xs).length=f.xs.length:=List.length_map ..
 have h40:=hf.len
 have hc0:Qg n (zP [])=0:=rfl
 have hl0:ZX n (zP [])=0:=rfl
 refine fon Tryz.func203 ?_;dsimp only[Tryz.f203]
 push_cast -dsimp
 refine loop (fun i:Nat=>⟨[(1,.sc (.int .i64 n)),(2,.ptr 0 0),(6,.sc (.int .i64 (Qg n (zP (f.xs.take i)):Nat))),(7,.sc (.int .i64 (ZX n (zP (f.xs.take i))))),(8,.sc (.int .i64 i))],[fsC f],0,0⟩) (fun i=>i<=f.xs.length) (fun i=>f.xs.length-i) 0 (Nat.zero_le _) ?_ ?_
 ·exact wk (by push_cast -dsimp [zb,za,CLe,ze,List.take_zero,hc0,hl0])
 ·intro i h1
  by_cases h:i<f.xs.length
  ·have g1:=qD f.xs i h
   have hle:(zG f.xs[i].es).length=f.xs[i].es.length:=List.length_map ..
   have hpl:(zP (f.xs.take i)).length<=i*10000:=by
    have:=zfi (xs:=f.xs.take i) fun x hx=>(hf.node x (List.mem_of_mem_take hx)).1
    rw[List.length_take]at this
    exact Nat.le_trans this (Nat.mul_le_mul_right _ (Nat.min_le_left _ _))
   have h40e:=(hf.node _ (List.getElem_mem h)).1
   push_cast -dsimp [hll,h]
   refine loop (fun k:Nat=>⟨[(1,.sc (.int .i64 n)),(2,.ptr 0 0),(6,.sc (.int .i64 (Qg n (zP (f.xs.take i)++Q8 f.xs[i] (f.xs[i].es.take k)):Nat))),(7,.sc (.int .i64 (ZX n (zP (f.xs.take i)++Q8 f.xs[i] (f.xs[i].es.take k))))),(8,.sc (.int .i64 i)),(9,.sc (.int .i64 k))],[fsC f],0,0⟩) (fun k=>k<=f.xs[i].es.length) (fun k=>f.xs[i].es.length-k) 0 (Nat.zero_le _) ?_ ?_
   ·exact wk (by push_cast -dsimp [zb,za,CLe,ze,List.take_zero,List.append_nil])
   ·intro k hk0
    by_cases hk:k<f.xs[i].es.length
    ·have g2:=jx f.xs[i].es k hk
     have ht:=zbb (x:=f.xs[i]) hk
     have hcl:=zm0 (n:=n) (l:=zP (f.xs.take i)++Q8 f.xs[i] (f.xs[i].es.take k))
     rw[List.length_append,List.length_map,List.length_take]at hcl
     have hca:=zjK (n:=n) (l:=zP (f.xs.take i)++Q8 f.xs[i] (f.xs[i].es.take k)) (p:=(f.xs[i].es[k].ino,f.xs[i].ino))
     have hla:=zhO (n:=n) (l:=zP (f.xs.take i)++Q8 f.xs[i] (f.xs[i].es.take k)) (p:=(f.xs[i].es[k].ino,f.xs[i].ino))
     rw[List.append_assoc,←ht]at hca hla
     by_cases hc:f.xs[i].es[k].ino=n
     ·rw[if_pos hc]at hca hla
      push_cast -dsimp [g1,hle,hk,g2,hc]
      repeat refine an ?_
      exact ⟨k+1,hk,by omega,wk (by push_cast -dsimp [zb,za,CLe,ze,hca,hla])⟩
     ·rw[if_neg hc]at hca hla
      push_cast -dsimp [g1,hle,hk,g2,hc]
      repeat refine an ?_
      exact ⟨k+1,hk,by omega,wk (by push_cast -dsimp [zb,za,CLe,ze,hca,hla])⟩
    ·have hkk:f.xs[i].es.take k=f.xs[i].es:=List.take_of_length_le (by omega)
     rw[hkk]
     have ht:=zbl h
     push_cast -dsimp [g1,hle,hk]
     repeat refine an ?_
     exact ⟨i+1,h,by omega,wk (by push_cast -dsimp [zb,za,CLe,ze,ht])⟩
  ·rw[List.take_of_length_le (by omega)]
   push_cast -dsimp [hll,h]
   exact dn
end
end
section
open CA CB
open Go.RowKit
section
variable {G:zk}
theorem ki (f:FsV) (hf:FsS f):Fun Tryz.prog G 165 [.agg (fsC f)] (.sc (.bool (decide (Yb f)))) 0:=by
 have hll:(zF f.xs).length=f.xs.length:=List.length_map ..
 have h40:=hf.len
 refine fon Tryz.func165 ?_;dsimp only[Tryz.f165]
 push_cast -dsimp
 refine loop (fun i:Nat=>⟨[(1,.ptr 0 0),(3,.sc (.int .i64 i))],[fsC f],0,0⟩) (fun i=>i<=f.xs.length/\∀ x∈f.xs.take i,Zi f.xs x) (fun i=>f.xs.length-i) 0 ⟨Nat.zero_le _,fun x hx=>by simp at hx⟩ ?_ ?_
 ·exact wk
 ·rintro i ⟨h1,h2⟩
  by_cases h:i<f.xs.length
  ·have g1:=qD f.xs i h
   have hbad:¬Zi f.xs f.xs[i]->¬Yb f:=fun hn h'=>hn (h' _ (List.getElem_mem h))
   have hdef:Zi f.xs f.xs[i]↔f.xs[i].links=Qg f.xs[i].ino (zP f.xs)/\if f.xs[i].ino=1 then Qg f.xs[i].ino (zP f.xs)=0/\f.xs[i].parent=1 else 1<=Qg f.xs[i].ino (zP f.xs)/\(f.xs[i].kind=2->Qg f.xs[i].ino (zP f.xs)=1/\f.xs[i].parent=ZX f.xs[i].ino (zP f.xs)):=Iff.rfl
   push_cast -dsimp [hll,h,g1]
   repeat refine an ?_
   refine cl (zap f f.xs[i].ino hf) ?_;push_cast -dsimp
   generalize Qg f.xs[i].ino (zP f.xs)=c at hdef
   generalize ZX f.xs[i].ino (zP f.xs)=d at hdef
   by_cases c1:f.xs[i].links=(c:Int)
   case neg =>
    have hn:=hbad fun h=>c1 (hdef.1 h).1
    push_cast -dsimp [c1]
    exact dn (by push_cast -dsimp [zb,za,CLe,ze,hn])
   by_cases c2:f.xs[i].ino=1
   ·rw[if_pos c2]at hdef
    by_cases c3:(c:Int)=0
    ·by_cases c4:f.xs[i].parent=1
     ·push_cast -dsimp [c1,c2,c3,c4]
      repeat refine an ?_
      exact ⟨i+1,⟨h,zQ h h2 (hdef.2 ⟨c1,by omega,c4⟩)⟩,by omega,wk⟩
     ·have hn:=hbad fun h=>c4 (hdef.1 h).2.2
      push_cast -dsimp [c1,c2,c3,c4]
      exact dn (by push_cast -dsimp [zb,za,CLe,ze,hn])
    ·have hn:=hbad fun h=>by have:=(hdef.1 h).2.1;omega
     push_cast -dsimp [c1,c2,c3]
     exact dn (by push_cast -dsimp [zb,za,CLe,ze,hn])
   ·rw[if_neg c2]at hdef
    by_cases c3:(c:Int)<1
    ·have hn:=hbad fun h=>by have:=(hdef.1 h).2.1;omega
     push_cast -dsimp [c1,c2,c3]
     exact dn (by push_cast -dsimp [zb,za,CLe,ze,hn])
    by_cases c4:f.xs[i].kind=2
    ·by_cases c5:(c:Int)=1
     ·by_cases c6:f.xs[i].parent=d
      ·push_cast -dsimp [c1,c2,c3,c4,c5,c6]
       repeat refine an ?_
       exact ⟨i+1,⟨h,zQ h h2 (hdef.2 ⟨c1,by omega,fun _=>⟨by omega,c6⟩⟩)⟩,by omega,wk⟩
      ·have hn:=hbad fun h=>c6 ((hdef.1 h).2.2 c4).2
       push_cast -dsimp [c1,c2,c3,c4,c5,c6]
       exact dn (by push_cast -dsimp [zb,za,CLe,ze,hn])
     ·have hn:=hbad fun h=>by have:=((hdef.1 h).2.2 c4).1;omega
      push_cast -dsimp [c1,c2,c3,c4,c5]
      exact dn (by push_cast -dsimp [zb,za,CLe,ze,hn])
    ·push_cast -dsimp [c1,c2,c3,c4]
     repeat refine an ?_
     exact ⟨i+1,⟨h,zQ h h2 (hdef.2 ⟨c1,by omega,fun h=>absurd h c4⟩)⟩,by omega,wk⟩
  ·rw[List.take_of_length_le (by omega)]at h2
   have hn:Yb f:=h2
   push_cast -dsimp [hll,h]
   exact dn (by push_cast -dsimp [zb,za,CLe,ze,hn])
end
end
section
open CA CB
open Go.RowKit
abbrev zbo (S:List Int):List (List C):=S.map fun n=>[C.sc (.int .i64 n)]
def JO (S:List Int) (n:Int):List Int:=if n∈S then S else S++[n]
def UA (S:List Int) (es:List zK):List Int:=es.foldl (fun s e=>JO s e.ino) S
def X7 (xs:List zn):Nat->Nat->List Int->List Int
 | 0,_,S=>S
 | m+1,i,S=>match S[i]? with
  | some n=>X7 xs m (i+1) (UA S (zf n xs).es)
  | none=>S
def XS (f:FsV):Prop:=(X7 f.xs (f.xs.length+1) 0 [1]).length=f.xs.length
instance (f:FsV):Decidable (XS f):=by unfold XS;infer_instance
theorem Vc:∀ {S T:List Int},S.Nodup->(∀ n∈S,n∈T)->S.length<=T.length
 | [],T,_,_=>Nat.zero_le _
 | a :: r,T,hn,hs=>by
  have ha:=hs a List.mem_cons_self
  obtain ⟨h1,h2⟩:=List.nodup_cons.1 hn
  have:=Vc (S:=r) (T:=T.erase a) h2 fun n hr=>(List.mem_erase_of_ne (fun e=>h1 (by rw[←e];exact hr))).2 (hs n (List.mem_cons_of_mem _ hr))
  rw[List.length_erase_of_mem ha]at this
  have hpos:=List.length_pos_iff.2 (List.ne_nil_of_mem ha)
  rw[List.length_cons];omega
theorem HY {n:Int} {xs:List zn}:zw n xs=true↔n∈xs.map (·.ino):=by
 unfold zw
 rw[List.any_eq_true,List.mem_map]
 simp
theorem Qt {S:List Int} {xs:List zn} (hn:S.Nodup) (hs:∀ n∈S,zw n xs=true):S.length<=xs.length:=by
 have:=Vc (T:=xs.map (·.ino)) hn fun n h=>HY.1 (hs n h)
 rwa [List.length_map]at this
theorem NV {S:List Int} {n:Int} (h:S.Nodup):(JO S n).Nodup:=by
 unfold JO
 split
 ·exact h
 ·rw[List.nodup_append]
  refine ⟨h,by simp,fun a ha b hb e=>?_⟩
  simp at hb;subst hb;subst e;contradiction
theorem kK {S:List Int} {n m:Int}:m∈JO S n↔m∈S∨m=n:=by
 unfold JO
 split
 ·constructor
  ·exact .inl
  ·rintro (h | h)
   ·exact h
   ·rw[h];assumption
 ·simp
theorem qM {n:Int} {xs:List zn} (h:zw n xs=true):zf n xs∈xs/\(zf n xs).ino=n:=by
 unfold zw at h
 unfold zf XX
 cases hq:xs.find? fun x=>x.ino==n with
 | none =>
  rw[List.find?_eq_none]at hq
  obtain ⟨x,hx,he⟩:=List.any_eq_true.1 h
  exact absurd he (hq x hx)
 | some y =>
  exact ⟨List.mem_of_find?_eq_some hq,by simpa using List.find?_some hq⟩
theorem zdh {S:List Int} {es:List zK} {k:Nat} (h:k<es.length):UA S (es.take (k+1))=JO (UA S (es.take k)) es[k].ino:=by
 unfold UA
 rw[List.take_add_one,List.getElem?_eq_getElem h,List.foldl_append]
 rfl
theorem zf9 (es:List zK):∀ (S:List Int),S <+: UA S es:=by
 induction es with
 | nil=>exact fun S=>List.prefix_refl S
 | cons e r ih =>
  intro S
  refine List.IsPrefix.trans ?_ (ih (JO S e.ino))
  unfold JO
  split
  ·exact List.prefix_refl S
  ·exact List.prefix_append S _
theorem zgb (S:List Int) (es:List zK):S.length<=(UA S es).length:=(zf9 es S).length_le
structure JV (xs:List zn) (S:List Int):Prop where
 nodup:S.Nodup
 has:∀ n∈S,zw n xs=true
theorem JV.len {xs:List zn} {S:List Int} (h:JV xs S):S.length<=xs.length:=Qt h.nodup h.has
theorem JV.one {xs:List zn} {S:List Int} {n:Int} (h:JV xs S) (hn:zw n xs=true):JV xs (JO S n):=⟨NV h.nodup,fun m hm=>by
 rcases kK.1 hm with hm | rfl
 ·exact h.has m hm
 ·exact hn⟩
theorem zeM {S:List Int} {n:Int} {j:Nat} (h:j<S.length):((S.take (j+1)).any fun m=>decide (m=n))=(((S.take j).any fun m=>decide (m=n))||decide (S[j]=n)):=by
 rw[List.take_add_one,List.getElem?_eq_getElem h,List.any_append]
 simp
theorem zl9 {S:List Int} {n:Int}:(S.any fun m=>decide (m=n))=decide (n∈S):=by
 rw[Bool.eq_iff_iff,List.any_eq_true,decide_eq_true_iff]
 constructor
 ·rintro ⟨m,hm,h⟩;exact (of_decide_eq_true h)▸hm
 ·exact fun h=>⟨n,h,decide_eq_true rfl⟩
theorem vw (S:List Int) (i:Nat) (h:i<S.length):(zbo S)[i]?=some [.sc (.int .i64 S[i])]:=by simp[List.getElem?_map,List.getElem?_eq_getElem h]
section
variable {G:zk}
theorem GS (f:FsV) (hf:FsS f) (h3:JR f) (h1:zw 1 f.xs=true):Fun Tryz.prog G 166 [.agg (fsC f)] (.sc (.bool (decide (XS f)))) 0:=by
 have hll:(zF f.xs).length=f.xs.length:=List.length_map ..
 have h40:=hf.len
 refine fof (fun i=>if i=5 then Y0 9 10 else []) Tryz.func166 ?_;dsimp only[Tryz.f166]
 push_cast -dsimp
 refine loop (fun p:Nat×List Int=>⟨[(1,.ptr 0 0),(3,.own 0 3 1 (zbo p.2)),(4,.sc (.int .i64 p.1))],[fsC f],1,0⟩) (fun p=>p.1<=p.2.length/\JV f.xs p.2/\X7 f.xs (f.xs.length+1-p.1) p.1 p.2=X7 f.xs (f.xs.length+1) 0 [1]) (fun p=>f.xs.length+1-p.1) (0,[1]) ⟨Nat.zero_le _,⟨by simp,fun n hn=>by simp at hn;subst hn;exact h1⟩,rfl⟩ ?_ ?_
 ·exact wks [.inl 0]
 ·rintro ⟨i,S⟩ ⟨k1,k2,k3⟩
  dsimp only at k1 k2 k3 ⊢
  have hSl:=k2.len
  have hli:(zbo S).length=S.length:=List.length_map ..
  by_cases h:i<S.length
  ·have g0:=vw S i h
   obtain ⟨hm,hino⟩:=qM (k2.has S[i] (List.getElem_mem h))
   push_cast -dsimp [hli,h,g0]
   repeat refine an ?_
   refine cl (jb f S[i] (by omega)) ?_;push_cast -dsimp
   rw[show f.xs.length+1-i=(f.xs.length+1-(i+1))+1 by omega,X7,List.getElem?_eq_getElem h]at k3
   dsimp only at k3
   generalize zf S[i] f.xs=x at hm hino k3
   have hx40:=(hf.node x hm).1
   have hle:(zG x.es).length=x.es.length:=List.length_map ..
   refine loop (fun k:Nat=>⟨[(1,.ptr 0 0),(3,.own 0 3 1 (zbo (UA S (x.es.take k)))),(4,.sc (.int .i64 i)),(5,.ptr 1 0),(7,.sc (.int .i64 k))],[fsC f,JJ x],1,0⟩) (fun k=>k<=x.es.length/\JV f.xs (UA S (x.es.take k))) (fun k=>x.es.length-k) 0 ⟨Nat.zero_le _,k2⟩ ?_ ?_
   ·exact wks [.inl 0] (by push_cast -dsimp [zb,za,CLe,ze,List.take_zero,UA,List.foldl_nil])
   ·rintro k ⟨hk0,k4⟩
    by_cases hk:k<x.es.length
    ·have g2:=jx x.es k hk
     have hT:=k4.len
     have ht:=zdh (S:=S) hk
     have hhas:zw x.es[k].ino f.xs=true:=h3 x hm _ (List.getElem_mem hk)
     have k5:=k4.one hhas
     rw[←ht]at k5
     generalize hT1:UA S (x.es.take (k+1))=T1 at ht k5
     generalize UA S (x.es.take k)=T at k4 hT ht
     have hlT:(zbo T).length=T.length:=List.length_map ..
     generalize hn:x.es[k].ino=n at g2 ht
     push_cast -dsimp [hle,hk]
     refine loop (fun j:Nat=>⟨[(1,.ptr 0 0),(3,.own 0 3 1 (zbo T)),(4,.sc (.int .i64 i)),(5,.ptr 1 0),(7,.sc (.int .i64 k)),(8,.sc (.bool ((T.take j).any fun m=>decide (m=n)))),(9,.sc (.int .i64 j))],[fsC f,JJ x],1,0⟩) (fun j=>j<=T.length) (fun j=>T.length-j) 0 (Nat.zero_le _) ?_ ?_
     ·exact wks [.inl 0] (by push_cast -dsimp [zb,za,CLe,ze,List.take_zero,List.any_nil])
     ·intro j hj0
      by_cases hj:j<T.length
      ·have g3:=vw T j hj
       have ha:=zeM (n:=n) hj
       by_cases hq:((T.take j).any fun m=>decide (m=n))=true
       ·rw[hq,Bool.true_or]at ha
        push_cast -dsimp [hlT,hj,hq]
        repeat refine an ?_
        exact ⟨j+1,hj,by omega,wks [.inl 0] (by push_cast -dsimp [zb,za,CLe,ze,ha])⟩
       ·have hq:=Bool.eq_false_iff.2 hq
        rw[hq,Bool.false_or]at ha
        push_cast -dsimp [hlT,hj,hq,g3,g2,hn]
        repeat refine an ?_
        exact ⟨j+1,hj,by omega,wks [.inl 0] (by push_cast -dsimp [zb,za,CLe,ze,ha])⟩
      ·have hTj:(T.take j)=T:=List.take_of_length_le (by omega)
       have hany:=zl9 (S:=T) (n:=n)
       unfold JO at ht
       by_cases hin:n∈T
       ·rw[if_pos hin]at ht
        rw[decide_eq_true hin]at hany
        push_cast -dsimp [hlT,hj,hTj,hany]
        repeat refine an ?_
        exact ⟨k+1,⟨hk,by rw[hT1];exact k5⟩,by omega,wks [.inl 0] (by push_cast -dsimp [zb,za,CLe,ze,hT1,ht])⟩
       ·rw[if_neg hin]at ht
        rw[decide_eq_false hin]at hany
        push_cast -dsimp [hlT,hj,hTj,hany,g2,hn]
        repeat refine an ?_
        exact ⟨k+1,⟨hk,by rw[hT1];exact k5⟩,by omega,wks [.inl 0] (by push_cast -dsimp [zb,za,CLe,ze,hT1,ht,List.map_append])⟩
    ·have hkk:x.es.take k=x.es:=List.take_of_length_le (by omega)
     rw[hkk]at k4
     have hge:i+1<=(UA S x.es).length:=Nat.le_trans h (zgb S x.es)
     push_cast -dsimp [hle,hk,hkk]
     repeat refine an ?_
     exact ⟨(i+1,UA S x.es),⟨hge,k4,k3⟩,by dsimp only;omega,wks [.inl 0]⟩
  ·push_cast -dsimp [hli,h]
   have hfin:X7 f.xs (f.xs.length+1-i) i S=S:=by
    rw[show f.xs.length+1-i=(f.xs.length-i)+1 by omega,X7,List.getElem?_eq_none (by omega)]
   rw[hfin]at k3
   have hn:XS f↔S.length=f.xs.length:=by unfold XS;rw[←k3]
   exact dn (by push_cast -dsimp [zb,za,CLe,ze,hn,hll])
end
end
section
open CA CB
open Go.RowKit
def Yo (es:List zK):Prop:=∀ i (h:i<es.length),may es[i].name=true/\1<=es[i].ino/\(0<i->Op.bytesLess es[i-1].name es[i].name=true)
instance (es:List zK):Decidable (Yo es):=by unfold Yo;infer_instance
def J8 (x:zn):Prop:=(x.kind=1∨x.kind=2∨x.kind=3)/\(x.kind≠2->x.es = []/\x.parent=0)/\(x.kind=2->x.data = []/\Yo x.es)/\(x.kind=3->1<=x.data.length/\x.data.length<=4095/\∀ b∈x.data,b≠0)
instance (x:zn):Decidable (J8 x):=by unfold J8;infer_instance
def J5 (f:FsV):Prop:=∀ x∈f.xs,J8 x
instance (f:FsV):Decidable (J5 f):=by unfold J5;infer_instance
def jY (f:FsV):Int:=if jX f then if J5 f then if JR f then if Yb f then if XS f then if UK f then 0 else 6 else 5 else 4 else 3 else 2 else 1
def okV (f:FsV):Prop:=UQ f.xs/\jY f=0
instance (f:FsV):Decidable (okV f):=by unfold okV;infer_instance
theorem zeo (es:List zK) (hl:es.length<=100000) (hn:∀ e∈es,e.name.length<=1000000):Fun Tryz.prog G0 202 [.sl 2 (zG es)] (qe (decide (Yo es))) 0:=by
 have hle:(zG es).length=es.length:=List.length_map ..
 refine fon Tryz.func202 ?_;dsimp only[Tryz.f202]
 push_cast -dsimp
 refine loop (fun i:Nat=>⟨[(0,.sl 2 (zG es)),(3,.sc (.int .i64 i))],[],0,0⟩) (fun i=>i<=es.length/\∀ j (h:j<es.length),j<i->may es[j].name=true/\1<=es[j].ino/\(0<j->Op.bytesLess es[j-1].name es[j].name=true)) (fun i=>es.length-i) 0 ⟨Nat.zero_le _,fun j h h'=>absurd h' (Nat.not_lt_zero _)⟩ ?_ ?_
 ·exact wk
 ·rintro i ⟨h1,h2⟩
  by_cases h:i<es.length
  ·have g1:=jx es i h
   have hm:=Xy es[i].name (by have:=hn _ (List.getElem_mem h);omega)
   push_cast -dsimp [hle,h,g1]
   repeat refine an ?_
   cases c1:may es[i].name with
   | false =>
    have hno:¬Yo es:=fun hr=>by have:=(hr i h).1;rw[c1]at this;cases this
    refine cl (hm) ?_;push_cast -dsimp [c1]
    exact dn (by push_cast -dsimp [zb,za,CLe,ze,hno])
   | true =>
    by_cases c2:es[i].ino<1
    ·have hno:¬Yo es:=fun hr=>by have:=(hr i h).2.1;omega
     refine cl (hm) ?_;push_cast -dsimp [c1,g1,c2]
     repeat refine an ?_
     exact dn (by push_cast -dsimp [zb,za,CLe,ze,hno])
    ·have step:(0<i->Op.bytesLess es[i-1].name es[i].name=true)->∀ j (h:j<es.length),j<i+1->may es[j].name=true/\1<=es[j].ino/\(0<j->Op.bytesLess es[j-1].name es[j].name=true):=fun hb j hj hlt=>by
      rcases Nat.lt_or_ge j i with q | q
      ·exact h2 j hj q
      ·have:j=i:=by omega
       subst this
       exact ⟨c1,by omega,hb⟩
     by_cases c3:0<i
     ·have g2:=jx es (i-1) (by omega)
      have e1:(i:Int)-1=((i-1:Nat):Int):=by omega
      cases c4:Op.bytesLess es[i-1].name es[i].name with
      | true =>
       refine cl (hm) ?_;push_cast -dsimp [c1,g1,c2]
       repeat refine an ?_
       push_cast -dsimp [c3,e1,g2,g1,c4]
       repeat refine an ?_
       exact ⟨i+1,⟨h,step fun _=>c4⟩,by omega,wk⟩
      | false =>
       have hno:¬Yo es:=fun hr=>by have:=(hr i h).2.2 c3;rw[c4]at this;cases this
       refine cl (hm) ?_;push_cast -dsimp [c1,g1,c2]
       repeat refine an ?_
       push_cast -dsimp [c3,e1,g2,g1,c4]
       repeat refine an ?_
       exact dn (by push_cast -dsimp [zb,za,CLe,ze,hno])
     ·refine cl (hm) ?_;push_cast -dsimp [c1,g1,c2]
      repeat refine an ?_
      push_cast -dsimp [c3]
      repeat refine an ?_
      exact ⟨i+1,⟨h,step fun h=>absurd h c3⟩,by omega,wk⟩
  ·have hr:Yo es:=fun j hj=>h2 j hj (by omega)
   push_cast -dsimp [hle,h]
   exact dn (by push_cast -dsimp [zb,za,CLe,ze,hr])
end
section
open CA CB
open Go.RowKit
theorem kA (f:FsV) (hf:FsS f):Fun Tryz.prog G0 163 [.agg (fsC f)] (qe (decide (J5 f))) 0:=by
 have hll:(zF f.xs).length=f.xs.length:=List.length_map ..
 have h40:=hf.len
 refine fon Tryz.func163 ?_;dsimp only[Tryz.f163]
 push_cast -dsimp
 refine loop (fun i:Nat=>⟨[(1,.ptr 0 0),(3,.sc (.int .i64 i))],[fsC f],0,0⟩) (fun i=>i<=f.xs.length/\∀ x∈f.xs.take i,J8 x) (fun i=>f.xs.length-i) 0 ⟨Nat.zero_le _,fun x hx=>by simp at hx⟩ ?_ ?_
 ·exact wk
 ·rintro i ⟨h1,h2⟩
  by_cases h:i<f.xs.length
  case neg =>
   rw[List.take_of_length_le (by omega)]at h2
   have hn:J5 f:=h2
   push_cast -dsimp [hll,h]
   exact dn (by push_cast -dsimp [zb,za,CLe,ze,hn])
  have g1:=qD f.xs i h
  have hbad:¬J8 f.xs[i]->¬J5 f:=fun hn h'=>hn (h' _ (List.getElem_mem h))
  have hs:=hf.node _ (List.getElem_mem h)
  have step:J8 f.xs[i]->∀ x∈f.xs.take (i+1),J8 x:=fun hq=>zQ h h2 hq
  push_cast -dsimp [hll,h,g1]
  repeat refine an ?_
  generalize f.xs[i]=x at g1 hbad hs step
  have hle:(zG x.es).length=x.es.length:=List.length_map ..
  have hent:x.es.length<=10000:=hs.1
  by_cases k2:x.kind=2
  ·by_cases d0:x.data = []
   ·have hr:=zeo x.es (by omega) fun e he=>by have:=hs.2.2 e he;omega
    cases c1:decide (Yo x.es) with
    | false =>
     have hn:=hbad fun hq=>of_decide_eq_false c1 (hq.2.2.1 k2).2
     push_cast -dsimp [k2,d0]
     refine cl (hr) ?_;push_cast -dsimp [c1]
     exact dn (by push_cast -dsimp [zb,za,CLe,ze,hn])
    | true =>
     have hq:J8 x:=⟨.inr (.inl k2),fun h=>absurd k2 h,fun _=>⟨d0,of_decide_eq_true c1⟩,fun h=>by omega⟩
     push_cast -dsimp [k2,d0]
     refine cl (hr) ?_;push_cast -dsimp [c1,k2]
     refine loop (fun j:Nat=>⟨[(1,.ptr 0 0),(3,.sc (.int .i64 i)),(4,.ptr 1 0),(5,.sc (.int .i64 j))],[fsC f,JJ x],0,0⟩) (fun j=>j=0) (fun j=>0) 0 rfl ?_ ?_
     ·exact wk (by push_cast -dsimp [zb,za,CLe,ze,k2,d0]) (by push_cast -dsimp [zb,za,CLe,ze,k2,d0])
     ·rintro j rfl
      push_cast -dsimp [d0]
      repeat refine an ?_
      exact ⟨i+1,⟨h,step hq⟩,by omega,wk⟩
   ·have hn:=hbad fun hq=>d0 (hq.2.2.1 k2).1
    push_cast -dsimp [k2,d0]
    exact dn (by push_cast -dsimp [zb,za,CLe,ze,hn])
  by_cases e0:x.es = []
  case neg =>
   have hn:=hbad fun hq=>e0 (hq.2.1 k2).1
   have hpos:0<(x.es.length:Int):=by have:=List.length_pos_iff.2 e0;omega
   by_cases k1:x.kind=1
   ·push_cast -dsimp [k1,hle,hpos]
    exact dn (by push_cast -dsimp [zb,za,CLe,ze,hn])
   ·by_cases k3:x.kind=3
    ·push_cast -dsimp [k1,k2,k3,hle,hpos]
     exact dn (by push_cast -dsimp [zb,za,CLe,ze,hn])
    ·have hn:=hbad fun hq=>by rcases hq.1 with q | q | q<;>contradiction
     push_cast -dsimp [k1,k2,k3]
     exact dn (by push_cast -dsimp [zb,za,CLe,ze,hn])
  have hl0:x.es.length=0:=by rw[e0];rfl
  by_cases p0:x.parent=0
  case neg =>
   have hn:=hbad fun hq=>p0 (hq.2.1 k2).2
   by_cases k1:x.kind=1
   ·push_cast -dsimp [k1,hle,hl0,p0]
    exact dn (by push_cast -dsimp [zb,za,CLe,ze,hn])
   ·by_cases k3:x.kind=3
    ·push_cast -dsimp [k1,k2,k3,hle,hl0,p0]
     exact dn (by push_cast -dsimp [zb,za,CLe,ze,hn])
    ·have hn:=hbad fun hq=>by rcases hq.1 with q | q | q<;>contradiction
     push_cast -dsimp [k1,k2,k3]
     exact dn (by push_cast -dsimp [zb,za,CLe,ze,hn])
  by_cases k1:x.kind=1
  ·have hq:J8 x:=⟨.inl k1,fun _=>⟨e0,p0⟩,fun h=>absurd h k2,fun h=>by omega⟩
   push_cast -dsimp [k1,hle,hl0,p0]
   refine loop (fun j:Nat=>⟨[(1,.ptr 0 0),(3,.sc (.int .i64 i)),(4,.ptr 1 0),(5,.sc (.int .i64 j))],[fsC f,JJ x],0,0⟩) (fun j=>j=0) (fun j=>0) 0 rfl ?_ ?_
   ·exact wk (by push_cast -dsimp [zb,za,CLe,ze,k1,p0]) (by push_cast -dsimp [zb,za,CLe,ze,k1,p0])
   ·rintro j rfl
    by_cases hd:(0:Int)<x.data.length
    ·push_cast -dsimp [hd,k1]
     repeat refine an ?_
     exact ⟨i+1,⟨h,step hq⟩,by omega,wk⟩
    ·push_cast -dsimp [hd,k1]
     repeat refine an ?_
     exact ⟨i+1,⟨h,step hq⟩,by omega,wk⟩
  by_cases k3:x.kind=3
  case neg =>
   have hn:=hbad fun hq=>by rcases hq.1 with q | q | q<;>contradiction
   push_cast -dsimp [k1,k2,k3]
   exact dn (by push_cast -dsimp [zb,za,CLe,ze,hn])
  by_cases l1:(x.data.length:Int)<1
  ·have hn:=hbad fun hq=>by have:=(hq.2.2.2 k3).1;omega
   push_cast -dsimp [k1,k2,k3,hle,hl0,p0,l1]
   exact dn (by push_cast -dsimp [zb,za,CLe,ze,hn])
  by_cases l2:4095<(x.data.length:Int)
  ·have hn:=hbad fun hq=>by have:=(hq.2.2.2 k3).2.1;omega
   push_cast -dsimp [k1,k2,k3,hle,hl0,p0,l1,l2]
   exact dn (by push_cast -dsimp [zb,za,CLe,ze,hn])
  push_cast -dsimp [k1,k2,k3,hle,hl0,p0,l1,l2]
  refine loop (fun j:Nat=>⟨[(1,.ptr 0 0),(3,.sc (.int .i64 i)),(4,.ptr 1 0),(5,.sc (.int .i64 j))],[fsC f,JJ x],0,0⟩) (fun j=>j<=x.data.length/\∀ b∈x.data.take j,b≠0) (fun j=>x.data.length-j) 0 ⟨Nat.zero_le _,fun b hb=>by simp at hb⟩ ?_ ?_
  ·exact wk (by push_cast -dsimp [zb,za,CLe,ze,k3,p0]) (by push_cast -dsimp [zb,za,CLe,ze,k3,p0])
  ·rintro j ⟨j1,j2⟩
   by_cases hj:j<x.data.length
   ·have hb:x.data[j]?=some x.data[j]:=List.getElem?_eq_getElem hj
    by_cases z:(x.data[j].toNat:Int)=0
    ·have hn:=hbad fun hq=>(hq.2.2.2 k3).2.2 _ (List.getElem_mem hj) (UInt8.toNat_inj.1 (by simpa using z))
     push_cast -dsimp [hj,k3,hb,z]
     repeat refine an ?_
     exact dn (by push_cast -dsimp [zb,za,CLe,ze,hn])
    ·push_cast -dsimp [hj,k3,hb,z]
     repeat refine an ?_
     exact ⟨j+1,⟨hj,zQ hj j2 fun hz=>z (by rw[hz];rfl)⟩,by omega,wk⟩
   ·rw[List.take_of_length_le (by omega)]at j2
    have hq:J8 x:=⟨.inr (.inr k3),fun _=>⟨e0,p0⟩,fun h=>absurd h k2,fun _=>⟨by omega,by omega,j2⟩⟩
    push_cast -dsimp [hj,k3]
    repeat refine an ?_
    exact ⟨i+1,⟨h,step hq⟩,by omega,wk⟩
theorem zcz (f:FsV) (hf:FsS f):Fun Tryz.prog G0 115 [.agg (fsC f)] (.sc (.int .i64 (jY f))) 0:=by
 have h40:=hf.len
 have hb:zV f.xs<=100000000:=by have:=hf.bytes;omega
 refine fon Tryz.func115 ?_;dsimp only[Tryz.f115]
 push_cast -dsimp
 by_cases c1:jX f
 case neg =>
  refine cl (G5 f (by omega)) ?_;push_cast -dsimp [decide_eq_false c1]
  exact dn (by push_cast -dsimp [zb,za,CLe,ze,jY,c1])
 refine cl (G5 f (by omega)) ?_;push_cast -dsimp [decide_eq_true c1]
 by_cases c2:J5 f
 case neg =>
  refine cl (kA f hf) ?_;push_cast -dsimp [decide_eq_false c2]
  exact dn (by push_cast -dsimp [zb,za,CLe,ze,jY,c1,c2])
 refine cl (kA f hf) ?_;push_cast -dsimp [decide_eq_true c2]
 by_cases c3:JR f
 case neg =>
  refine cl (Md f hf) ?_;push_cast -dsimp [decide_eq_false c3]
  exact dn (by push_cast -dsimp [zb,za,CLe,ze,jY,c1,c2,c3])
 refine cl (Md f hf) ?_;push_cast -dsimp [decide_eq_true c3]
 by_cases c4:Yb f
 case neg =>
  refine cl (ki f hf) ?_;push_cast -dsimp [decide_eq_false c4]
  exact dn (by push_cast -dsimp [zb,za,CLe,ze,jY,c1,c2,c3,c4])
 refine cl (ki f hf) ?_;push_cast -dsimp [decide_eq_true c4]
 by_cases c5:XS f
 case neg =>
  refine cl (GS f hf c3 c1.2.2.2.2.2.2.2.1) ?_;push_cast -dsimp [decide_eq_false c5]
  exact dn (by push_cast -dsimp [zb,za,CLe,ze,jY,c1,c2,c3,c4,c5])
 refine cl (GS f hf c3 c1.2.2.2.2.2.2.2.1) ?_;push_cast -dsimp [decide_eq_true c5]
 by_cases c6:UK f
 case neg =>
  refine cl (yI f hf hb) ?_;push_cast -dsimp [decide_eq_false c6]
  exact dn (by push_cast -dsimp [zb,za,CLe,ze,jY,c1,c2,c3,c4,c5,c6])
 refine cl (yI f hf hb) ?_;push_cast -dsimp [decide_eq_true c6]
 exact dn (by push_cast -dsimp [zb,za,CLe,ze,jY,c1,c2,c3,c4,c5,c6])
end
section
open CA CB
open Go.RowKit
def qU (x:zn) (k:jZ):Bool:=decide (k.ino=x.ino)&&!k.content
def qg (w:qd) (x:zn):Prop:=zw x.ino w.fs.xs=false/\1<=x.ino/\x.ino<w.fs.next/\x.links=0/\x.parent=0/\x.es = []/\(x.kind=1∨x.kind=2∨x.kind=3)/\(x.kind=2->x.data = [])/\(x.kind=3->1<=x.data.length/\x.data.length<=4095/\∀ b∈x.data,b≠0)/\w.kept.any (qU x)=true
instance (w:qd) (x:zn):Decidable (qg w x):=by unfold qg;infer_instance
theorem zpa {α:Type} {P:α->Bool} {l:List α} {k:Nat} (h:k<l.length):(l.take (k+1)).any P=((l.take k).any P||P l[k]):=by
 rw[List.take_add_one,List.getElem?_eq_getElem h,List.any_append];simp
theorem ul (w:qd) (x:zn) (hl:w.fs.xs.length<=100000) (hk:w.kept.length<=100000) (he:x.es.length<=100000) (hd:x.data.length<=100000):Fun Tryz.prog G0 117 [N0 w,.agg (JJ x)] (qe (decide (qg w x))) 0:=by
 have hg:=jb (G:=G0) w.fs x.ino hl
 have hkl:(YZ w.kept).length=w.kept.length:=List.length_map ..
 have hle:(zG x.es).length=x.es.length:=List.length_map ..
 by_cases c1:zw x.ino w.fs.xs=true
 ·have hn:¬qg w x:=fun h=>by have:=h.1;rw[c1]at this;cases this
  rw[c1]at hg
  refine fon Tryz.func117 ?_;dsimp only[Tryz.f117]
  push_cast -dsimp
  refine cl (hg) ?_;push_cast -dsimp
  exact dn (by push_cast -dsimp [zb,za,CLe,ze,hn])
 have c1:=Bool.eq_false_iff.2 c1
 rw[c1]at hg
 by_cases c2:x.ino<1
 case pos =>
  have hn:¬qg w x:=fun h=>by have:=h.2.1;omega
  refine fon Tryz.func117 ?_;dsimp only[Tryz.f117]
  push_cast -dsimp
  refine cl (hg) ?_;push_cast -dsimp [hle,c2]
  exact dn (by push_cast -dsimp [zb,za,CLe,ze,hn])
 by_cases c3:w.fs.next<=x.ino
 case pos =>
  have hn:¬qg w x:=fun h=>by have:=h.2.2.1;omega
  refine fon Tryz.func117 ?_;dsimp only[Tryz.f117]
  push_cast -dsimp
  refine cl (hg) ?_;push_cast -dsimp [hle,c2,c3]
  exact dn (by push_cast -dsimp [zb,za,CLe,ze,hn])
 by_cases c4:x.links=0
 case neg =>
  have hn:¬qg w x:=fun h=>c4 h.2.2.2.1
  refine fon Tryz.func117 ?_;dsimp only[Tryz.f117]
  push_cast -dsimp
  refine cl (hg) ?_;push_cast -dsimp [hle,c2,c3,c4]
  exact dn (by push_cast -dsimp [zb,za,CLe,ze,hn])
 by_cases c5:x.parent=0
 case neg =>
  have hn:¬qg w x:=fun h=>c5 h.2.2.2.2.1
  refine fon Tryz.func117 ?_;dsimp only[Tryz.f117]
  push_cast -dsimp
  refine cl (hg) ?_;push_cast -dsimp [hle,c2,c3,c4,c5]
  exact dn (by push_cast -dsimp [zb,za,CLe,ze,hn])
 by_cases c6:(x.es.length:Int)=0
 case neg =>
  have hn:¬qg w x:=fun h=>c6 (by rw[h.2.2.2.2.2.1];rfl)
  refine fon Tryz.func117 ?_;dsimp only[Tryz.f117]
  push_cast -dsimp
  refine cl (hg) ?_;push_cast -dsimp [hle,c2,c3,c4,c5,c6]
  exact dn (by push_cast -dsimp [zb,za,CLe,ze,hn])
 by_cases c7:x.kind<1
 case pos =>
  have hn:¬qg w x:=fun h=>by have:=h.2.2.2.2.2.2.1;omega
  refine fon Tryz.func117 ?_;dsimp only[Tryz.f117]
  push_cast -dsimp
  refine cl (hg) ?_;push_cast -dsimp [hle,c2,c3,c4,c5,c6,c7]
  exact dn (by push_cast -dsimp [zb,za,CLe,ze,hn])
 by_cases c8:3<x.kind
 case pos =>
  have hn:¬qg w x:=fun h=>by have:=h.2.2.2.2.2.2.1;omega
  refine fon Tryz.func117 ?_;dsimp only[Tryz.f117]
  push_cast -dsimp
  refine cl (hg) ?_;push_cast -dsimp [hle,c2,c3,c4,c5,c6,c7,c8]
  exact dn (by push_cast -dsimp [zb,za,CLe,ze,hn])
 have hes:x.es = []:=List.eq_nil_of_length_eq_zero (by omega)
 have hkd:x.kind=1∨x.kind=2∨x.kind=3:=by omega
 have key:(x.kind=2->x.data = [])->(x.kind=3->1<=x.data.length/\x.data.length<=4095/\∀ b∈x.data,b≠0)->decide (qg w x)=w.kept.any (qU x):=fun q1 q2=>by
  cases hn:w.kept.any (qU x) with
  | true=>exact decide_eq_true ⟨c1,by omega,by omega,c4,c5,hes,hkd,q1,q2,hn⟩
  | false=>exact decide_eq_false fun h=>by have:=h.2.2.2.2.2.2.2.2.2;rw[hn]at this;cases this
 by_cases k2:x.kind=2
 ·by_cases d0:x.data = []
  ·have hdl:((0:Int)<x.data.length)=False:=eq_false (by rw[d0];simp)
   refine fon Tryz.func117 ?_;dsimp only[Tryz.f117]
   push_cast -dsimp
   refine cl (hg) ?_;push_cast -dsimp [hle,c2,c3,c4,c5,c6,c7,c8,k2,d0,hdl]
   refine loop (fun j:Nat=>⟨[(2,.ptr 0 0),(3,.ptr 1 0),(7,.sc (.int .i64 j))],[vC w,JJ x],0,0⟩) (fun j=>j=0) (fun j=>0) 0 rfl ?_ ?_
   ·exact wk (h5:=by push_cast -dsimp [zb,za,CLe,ze,k2,d0,c4,c5])
   ·rintro j rfl
    push_cast -dsimp [hdl,d0]
    refine loop (fun i:Nat=>⟨[(2,.ptr 0 0),(3,.ptr 1 0),(8,.sc (.bool ((w.kept.take i).any (qU x)))),(9,.sc (.int .i64 i))],[vC w,JJ x],0,0⟩) (fun i=>i<=w.kept.length) (fun i=>w.kept.length-i) 0 (Nat.zero_le _) ?_ ?_
    ·exact wk (by push_cast -dsimp [zb,za,CLe,ze,List.take_zero,List.any_nil])
    ·intro i hi
     by_cases h:i<w.kept.length
     ·have g:=YI w.kept i h
      have ha:=zpa (P:=qU x) h
      have hp:qU x w.kept[i]=(decide (w.kept[i].ino=x.ino)&&!w.kept[i].content):=rfl
      by_cases hn:((w.kept.take i).any (qU x))=true
      ·rw[hn,Bool.true_or]at ha
       push_cast -dsimp [hkl,h,hn]
       repeat refine an ?_
       exact ⟨i+1,h,by omega,wk (by push_cast -dsimp [zb,za,CLe,ze,ha])⟩
      ·have hn:=Bool.eq_false_iff.2 hn
       rw[hn,Bool.false_or,hp]at ha
       by_cases he:w.kept[i].ino=x.ino
       ·rw[decide_eq_true he,Bool.true_and]at ha
        push_cast -dsimp [hkl,h,hn,g,he]
        repeat refine an ?_
        exact ⟨i+1,h,by omega,wk (by push_cast -dsimp [zb,za,CLe,ze,ha])⟩
       ·rw[decide_eq_false he,Bool.false_and]at ha
        push_cast -dsimp [hkl,h,hn,g,he]
        repeat refine an ?_
        exact ⟨i+1,h,by omega,wk (by push_cast -dsimp [zb,za,CLe,ze,ha])⟩
     ·rw[List.take_of_length_le (by omega)]
      have hd:decide (qg w x)=w.kept.any (qU x):=key (fun _=>d0) (fun h=>by omega)
      push_cast -dsimp [hkl,h]
      exact dn (by push_cast -dsimp [zb,za,CLe,ze,hd])
  ·have hn:¬qg w x:=fun h=>d0 (h.2.2.2.2.2.2.2.1 k2)
   refine fon Tryz.func117 ?_;dsimp only[Tryz.f117]
   push_cast -dsimp
   refine cl (hg) ?_;push_cast -dsimp [hle,c2,c3,c4,c5,c6,c7,c8,k2,d0]
   exact dn (by push_cast -dsimp [zb,za,CLe,ze,hn])
 by_cases k3:x.kind=3
 ·by_cases l1:(x.data.length:Int)<1
  ·have hn:¬qg w x:=fun h=>by have:=(h.2.2.2.2.2.2.2.2.1 k3).1;omega
   refine fon Tryz.func117 ?_;dsimp only[Tryz.f117]
   push_cast -dsimp
   refine cl (hg) ?_;push_cast -dsimp [hle,c2,c3,c4,c5,c6,c7,c8,k2,k3,l1]
   exact dn (by push_cast -dsimp [zb,za,CLe,ze,hn])
  by_cases l2:4095<(x.data.length:Int)
  ·have hn:¬qg w x:=fun h=>by have:=(h.2.2.2.2.2.2.2.2.1 k3).2.1;omega
   refine fon Tryz.func117 ?_;dsimp only[Tryz.f117]
   push_cast -dsimp
   refine cl (hg) ?_;push_cast -dsimp [hle,c2,c3,c4,c5,c6,c7,c8,k2,k3,l1,l2]
   exact dn (by push_cast -dsimp [zb,za,CLe,ze,hn])
  refine fon Tryz.func117 ?_;dsimp only[Tryz.f117]
  push_cast -dsimp
  refine cl (hg) ?_;push_cast -dsimp [hle,c2,c3,c4,c5,c6,c7,c8,k2,k3,l1,l2]
  refine loop (fun j:Nat=>⟨[(2,.ptr 0 0),(3,.ptr 1 0),(7,.sc (.int .i64 j))],[vC w,JJ x],0,0⟩) (fun j=>j<=x.data.length/\∀ b∈x.data.take j,b≠0) (fun j=>x.data.length-j) 0 ⟨Nat.zero_le _,fun b hb=>by simp at hb⟩ ?_ ?_
  ·exact wk (h5:=by push_cast -dsimp [zb,za,CLe,ze,k3,c4,c5])
  ·rintro j ⟨j1,j2⟩
   by_cases hj:j<x.data.length
   ·have hb:x.data[j]?=some x.data[j]:=List.getElem?_eq_getElem hj
    by_cases z:(x.data[j].toNat:Int)=0
    ·have hn:¬qg w x:=fun h=>(h.2.2.2.2.2.2.2.2.1 k3).2.2 _ (List.getElem_mem hj) (UInt8.toNat_inj.1 (by simpa using z))
     push_cast -dsimp [hj,k3,hb,z]
     repeat refine an ?_
     exact dn (by push_cast -dsimp [zb,za,CLe,ze,hn])
    ·push_cast -dsimp [hj,k3,hb,z]
     repeat refine an ?_
     exact ⟨j+1,⟨hj,zQ hj j2 fun hz=>z (by rw[hz];rfl)⟩,by omega,wk⟩
   ·rw[List.take_of_length_le (by omega)]at j2
    push_cast -dsimp [hj,k3]
    refine loop (fun i:Nat=>⟨[(2,.ptr 0 0),(3,.ptr 1 0),(8,.sc (.bool ((w.kept.take i).any (qU x)))),(9,.sc (.int .i64 i))],[vC w,JJ x],0,0⟩) (fun i=>i<=w.kept.length) (fun i=>w.kept.length-i) 0 (Nat.zero_le _) ?_ ?_
    ·exact wk (by push_cast -dsimp [zb,za,CLe,ze,List.take_zero,List.any_nil])
    ·intro i hi
     by_cases h:i<w.kept.length
     ·have g:=YI w.kept i h
      have ha:=zpa (P:=qU x) h
      have hp:qU x w.kept[i]=(decide (w.kept[i].ino=x.ino)&&!w.kept[i].content):=rfl
      by_cases hn:((w.kept.take i).any (qU x))=true
      ·rw[hn,Bool.true_or]at ha
       push_cast -dsimp [hkl,h,hn]
       repeat refine an ?_
       exact ⟨i+1,h,by omega,wk (by push_cast -dsimp [zb,za,CLe,ze,ha])⟩
      ·have hn:=Bool.eq_false_iff.2 hn
       rw[hn,Bool.false_or,hp]at ha
       by_cases he:w.kept[i].ino=x.ino
       ·rw[decide_eq_true he,Bool.true_and]at ha
        push_cast -dsimp [hkl,h,hn,g,he]
        repeat refine an ?_
        exact ⟨i+1,h,by omega,wk (by push_cast -dsimp [zb,za,CLe,ze,ha])⟩
       ·rw[decide_eq_false he,Bool.false_and]at ha
        push_cast -dsimp [hkl,h,hn,g,he]
        repeat refine an ?_
        exact ⟨i+1,h,by omega,wk (by push_cast -dsimp [zb,za,CLe,ze,ha])⟩
     ·rw[List.take_of_length_le (by omega)]
      have hd:decide (qg w x)=w.kept.any (qU x):=key (fun h=>absurd h k2) (fun _=>⟨by omega,by omega,j2⟩)
      push_cast -dsimp [hkl,h]
      exact dn (by push_cast -dsimp [zb,za,CLe,ze,hd])
 ·have k1:x.kind=1:=by omega
  refine fon Tryz.func117 ?_;dsimp only[Tryz.f117]
  push_cast -dsimp
  refine cl (hg) ?_;push_cast -dsimp [hle,c2,c3,c4,c5,c6,c7,c8,k2,k3]
  refine loop (fun j:Nat=>⟨[(2,.ptr 0 0),(3,.ptr 1 0),(7,.sc (.int .i64 j))],[vC w,JJ x],0,0⟩) (fun j=>j=0) (fun j=>0) 0 rfl ?_ ?_
  ·exact wk (h5:=by push_cast -dsimp [zb,za,CLe,ze,c4,c5])
  ·rintro j rfl
   by_cases hd0:(0:Int)<x.data.length
   ·push_cast -dsimp [hd0,k3]
    refine loop (fun i:Nat=>⟨[(2,.ptr 0 0),(3,.ptr 1 0),(8,.sc (.bool ((w.kept.take i).any (qU x)))),(9,.sc (.int .i64 i))],[vC w,JJ x],0,0⟩) (fun i=>i<=w.kept.length) (fun i=>w.kept.length-i) 0 (Nat.zero_le _) ?_ ?_
    ·exact wk (by push_cast -dsimp [zb,za,CLe,ze,List.take_zero,List.any_nil])
    ·intro i hi
     by_cases h:i<w.kept.length
     ·have g:=YI w.kept i h
      have ha:=zpa (P:=qU x) h
      have hp:qU x w.kept[i]=(decide (w.kept[i].ino=x.ino)&&!w.kept[i].content):=rfl
      by_cases hn:((w.kept.take i).any (qU x))=true
      ·rw[hn,Bool.true_or]at ha
       push_cast -dsimp [hkl,h,hn]
       repeat refine an ?_
       exact ⟨i+1,h,by omega,wk (by push_cast -dsimp [zb,za,CLe,ze,ha])⟩
      ·have hn:=Bool.eq_false_iff.2 hn
       rw[hn,Bool.false_or,hp]at ha
       by_cases he:w.kept[i].ino=x.ino
       ·rw[decide_eq_true he,Bool.true_and]at ha
        push_cast -dsimp [hkl,h,hn,g,he]
        repeat refine an ?_
        exact ⟨i+1,h,by omega,wk (by push_cast -dsimp [zb,za,CLe,ze,ha])⟩
       ·rw[decide_eq_false he,Bool.false_and]at ha
        push_cast -dsimp [hkl,h,hn,g,he]
        repeat refine an ?_
        exact ⟨i+1,h,by omega,wk (by push_cast -dsimp [zb,za,CLe,ze,ha])⟩
     ·rw[List.take_of_length_le (by omega)]
      have hd:decide (qg w x)=w.kept.any (qU x):=key (fun h=>absurd h k2) (fun h=>absurd h k3)
      push_cast -dsimp [hkl,h]
      exact dn (by push_cast -dsimp [zb,za,CLe,ze,hd])
   ·push_cast -dsimp [hd0,k3]
    refine loop (fun i:Nat=>⟨[(2,.ptr 0 0),(3,.ptr 1 0),(8,.sc (.bool ((w.kept.take i).any (qU x)))),(9,.sc (.int .i64 i))],[vC w,JJ x],0,0⟩) (fun i=>i<=w.kept.length) (fun i=>w.kept.length-i) 0 (Nat.zero_le _) ?_ ?_
    ·exact wk (by push_cast -dsimp [zb,za,CLe,ze,List.take_zero,List.any_nil])
    ·intro i hi
     by_cases h:i<w.kept.length
     ·have g:=YI w.kept i h
      have ha:=zpa (P:=qU x) h
      have hp:qU x w.kept[i]=(decide (w.kept[i].ino=x.ino)&&!w.kept[i].content):=rfl
      by_cases hn:((w.kept.take i).any (qU x))=true
      ·rw[hn,Bool.true_or]at ha
       push_cast -dsimp [hkl,h,hn]
       repeat refine an ?_
       exact ⟨i+1,h,by omega,wk (by push_cast -dsimp [zb,za,CLe,ze,ha])⟩
      ·have hn:=Bool.eq_false_iff.2 hn
       rw[hn,Bool.false_or,hp]at ha
       by_cases he:w.kept[i].ino=x.ino
       ·rw[decide_eq_true he,Bool.true_and]at ha
        push_cast -dsimp [hkl,h,hn,g,he]
        repeat refine an ?_
        exact ⟨i+1,h,by omega,wk (by push_cast -dsimp [zb,za,CLe,ze,ha])⟩
       ·rw[decide_eq_false he,Bool.false_and]at ha
        push_cast -dsimp [hkl,h,hn,g,he]
        repeat refine an ?_
        exact ⟨i+1,h,by omega,wk (by push_cast -dsimp [zb,za,CLe,ze,ha])⟩
     ·rw[List.take_of_length_le (by omega)]
      have hd:decide (qg w x)=w.kept.any (qU x):=key (fun h=>absurd h k2) (fun h=>absurd h k3)
      push_cast -dsimp [hkl,h]
      exact dn (by push_cast -dsimp [zb,za,CLe,ze,hd])
end
section
open CA CB
open Go.RowKit
def zfH (w:qd):Prop:=(∀ k∈w.kept,k.data.length<=5000)/\UQ w.fs.xs/\UQ w.pool/\w.kept.length<=40
instance (w:qd):Decidable (zfH w):=by unfold zfH;infer_instance
def YS (w:qd) (k:jZ):Prop:=k.slot<=1073741824/\(zw k.ino w.fs.xs=true∨zw k.ino w.pool=true)/\(k.content=true->(if zw k.ino w.pool=true then zf k.ino w.pool else zf k.ino w.fs.xs).kind=1)/\(k.content=false->k.data = [])
instance (w:qd) (k:jZ):Decidable (YS w k):=by unfold YS;infer_instance
def Xb (ks:List jZ):Prop:=jE zo9 jZ.slot ks/\∀ k∈ks,1<=k.slot
instance (ks:List jZ):Decidable (Xb ks):=by unfold Xb jE;infer_instance
def YW (w:qd):Prop:=jY w.fs=0/\z8 w.pool/\(∀ x∈w.pool,qg w x)/\Xb w.kept/\∀ k∈w.kept,YS w k
instance (w:qd):Decidable (YW w):=by unfold YW;infer_instance
def okW (w:qd):Prop:=zfH w/\YW w
instance (w:qd):Decidable (okW w):=by unfold okW;infer_instance
theorem VZ {ks:List jZ} (h:Xb ks):0<=jF ks/\∀ k∈ks,k.slot<=jF ks:=by
 rcases List.eq_nil_or_concat ks with rfl | ⟨l,b,rfl⟩
 ·exact ⟨Int.le_refl 0,fun k hk=>by cases hk⟩
 ·rw[List.concat_eq_append]at h ⊢
  have hl:jF (l++[b])=b.slot:=by unfold jF;rw[List.getLast?_append];rfl
  rw[hl]
  have hb:=h.2 b (by simp)
  refine ⟨by omega,fun k hk=>?_⟩
  rcases List.mem_append.1 hk with hk | hk
  ·have:=(List.pairwise_append.1 h.1).2.2 k hk b (by simp)
   have:k.slot<b.slot:=of_decide_eq_true this
   omega
  ·rw[List.mem_singleton.1 hk];exact Int.le_refl _
theorem VW {ks:List jZ} {k:jZ}:Xb (ks++[k])↔Xb ks/\jF ks<k.slot:=by
 constructor
 ·rintro ⟨h1,h2⟩
  have h0:Xb ks:=⟨(List.pairwise_append.1 h1).1,fun x hx=>h2 x (List.mem_append_left _ hx)⟩
  refine ⟨h0,?_⟩
  rcases List.eq_nil_or_concat ks with rfl | ⟨l,b,rfl⟩
  ·have:=h2 k (by simp)
   show (0:Int)<k.slot
   omega
  ·rw[List.concat_eq_append]at h1 ⊢
   have hl:jF (l++[b])=b.slot:=by unfold jF;rw[List.getLast?_append];rfl
   rw[hl]
   exact of_decide_eq_true ((List.pairwise_append.1 h1).2.2 b (by simp) k (by simp))
 ·rintro ⟨h,hk⟩
  obtain ⟨q1,q2⟩:=VZ h
  refine ⟨List.pairwise_append.2 ⟨h.1,List.pairwise_singleton _ _,fun a ha b hb=>?_⟩,fun x hx=>?_⟩
  ·rw[List.mem_singleton.1 hb]
   have:=q2 a ha
   exact decide_eq_true (show a.slot<k.slot by omega)
  ·rcases List.mem_append.1 hx with hx | hx
   ·exact h.2 x hx
   ·rw[List.mem_singleton.1 hx];omega
theorem ku (w:qd):Fun Tryz.prog G0 65 [N0 w] (qe (decide (zfH w))) 0:=by
 have hkl:(YZ w.kept).length=w.kept.length:=List.length_map ..
 have hf:=vJ (G:=G0) w.fs
 have hq:=Uw (G:=G0) w
 have hp:=vJ (G:=G0) ⟨0,0,0,w.pool⟩
 simp only at hp
 have fin:(∀ k∈w.kept.take 100,k.data.length<=5000)->(zfH w↔UQ w.fs.xs/\UQ w.pool/\w.kept.length<=40):=fun h=>by
  refine ⟨fun q=>q.2,fun q=>⟨?_,q⟩⟩
  rw[List.take_of_length_le (by have:=q.2.2;omega)]at h
  exact h
 refine fon Tryz.func65 ?_;dsimp only[Tryz.f65]
 push_cast -dsimp
 refine loop (fun i:Nat=>⟨[(1,.ptr 0 0),(3,.sc (.int .i64 i))],[vC w],0,0⟩) (fun i=>i<=w.kept.length/\i<=100/\∀ k∈w.kept.take i,k.data.length<=5000) (fun i=>w.kept.length-i) 0 ⟨Nat.zero_le _,Nat.zero_le _,fun x hx=>by simp at hx⟩ ?_ ?_
 ·exact wk
 ·rintro i ⟨h1,h2,h3⟩
  have last:(∀ k∈w.kept.take 100,k.data.length<=5000)->decide (zfH w)=(decide (UQ w.fs.xs)&&(decide (UQ w.pool)&&decide (w.kept.length<=40))):=fun h=>by
   have:=fin h
   by_cases a:UQ w.fs.xs<;>by_cases b:UQ w.pool<;>by_cases c:w.kept.length<=40<;>simp[this,a,b,c]
  by_cases h:i<w.kept.length
  ·by_cases h100:i<100
   ·have g:=YI w.kept i h
    have h100':((i:Int)<100)=True:=eq_true (by omega)
    by_cases hd:5000<(w.kept[i].data.length:Int)
    ·have hn:¬zfH w:=fun q=>by have:=q.1 _ (List.getElem_mem h);omega
     push_cast -dsimp [hkl,h,h100',g,hd]
     repeat refine an ?_
     exact dn (by push_cast -dsimp [zb,za,CLe,ze,hn])
    ·push_cast -dsimp [hkl,h,h100',g,hd]
     repeat refine an ?_
     exact ⟨i+1,⟨h,h100,zQ h h3 (by omega)⟩,by omega,wk⟩
   ·have h100':((i:Int)<100)=False:=eq_false (by omega)
    have e:i=100:=by omega
    have hl:=last (by rw[←e];exact h3)
    have h40:((w.kept.length:Int)<=40)=False:=eq_false (by omega)
    rw[decide_eq_false (show ¬w.kept.length<=40 by omega)]at hl
    rw[hl]
    by_cases a:UQ w.fs.xs
    ·by_cases b:UQ w.pool
     ·push_cast -dsimp [hkl,h,h100']
      refine cl (hf) ?_;push_cast -dsimp [decide_eq_true a]
      refine cl (hq) ?_;push_cast -dsimp
      refine cl (hp) ?_;push_cast -dsimp [decide_eq_true b,hkl,h40]
      exact dn (by push_cast -dsimp [zb,za,CLe,ze,a,b,Bool.false_and])
     ·push_cast -dsimp [hkl,h,h100']
      refine cl (hf) ?_;push_cast -dsimp [decide_eq_true a]
      refine cl (hq) ?_;push_cast -dsimp
      refine cl (hp) ?_;push_cast -dsimp [decide_eq_false b]
      exact dn (by push_cast -dsimp [zb,za,CLe,ze,a,b,Bool.false_and])
    ·push_cast -dsimp [hkl,h,h100']
     refine cl (hf) ?_;push_cast -dsimp [decide_eq_false a]
     exact dn (by push_cast -dsimp [zb,za,CLe,ze,a,Bool.false_and])
  ·rw[List.take_of_length_le (by omega)]at h3
   have hl:=last fun k hk=>h3 k (List.mem_of_mem_take hk)
   rw[hl]
   by_cases a:UQ w.fs.xs
   ·by_cases b:UQ w.pool
    ·by_cases c:w.kept.length<=40
     ·have h40:((w.kept.length:Int)<=40)=True:=eq_true (by omega)
      push_cast -dsimp [hkl,h]
      refine cl (hf) ?_;push_cast -dsimp [decide_eq_true a]
      refine cl (hq) ?_;push_cast -dsimp
      refine cl (hp) ?_;push_cast -dsimp [decide_eq_true b,hkl,h40]
      exact dn (by push_cast -dsimp [zb,za,CLe,ze,a,b,c,Bool.false_and])
     ·have h40:((w.kept.length:Int)<=40)=False:=eq_false (by omega)
      push_cast -dsimp [hkl,h]
      refine cl (hf) ?_;push_cast -dsimp [decide_eq_true a]
      refine cl (hq) ?_;push_cast -dsimp
      refine cl (hp) ?_;push_cast -dsimp [decide_eq_true b,hkl,h40]
      exact dn (by push_cast -dsimp [zb,za,CLe,ze,a,b,c,Bool.false_and])
    ·push_cast -dsimp [hkl,h]
     refine cl (hf) ?_;push_cast -dsimp [decide_eq_true a]
     refine cl (hq) ?_;push_cast -dsimp
     refine cl (hp) ?_;push_cast -dsimp [decide_eq_false b]
     exact dn (by push_cast -dsimp [zb,za,CLe,ze,a,b,Bool.false_and])
   ·push_cast -dsimp [hkl,h]
    refine cl (hf) ?_;push_cast -dsimp [decide_eq_false a]
    exact dn (by push_cast -dsimp [zb,za,CLe,ze,a,Bool.false_and])
structure zqL (w:qd):Prop where
 fs:FsS w.fs
 kept:w.kept.length<=10000
 pool:FsS ⟨0,0,0,w.pool⟩
theorem yr (w:qd) (hw:zqL w):Fun Tryz.prog G0 66 [N0 w] (qe (decide (YW w))) 0:=by
 have hfl:=hw.fs.len
 have hkk:=hw.kept
 have hpp:w.pool.length<=10000:=hw.pool.len
 have hkl:(YZ w.kept).length=w.kept.length:=List.length_map ..
 have hpl:(zF w.pool).length=w.pool.length:=List.length_map ..
 have hch:=zcz w.fs hw.fs
 have hq:=Uw (G:=G0) w
 have hri:=Z6 (G:=G0) ⟨0,0,0,w.pool⟩ (by simp only;omega)
 by_cases c1:jY w.fs=0
 case neg =>
  have hn:¬YW w:=fun h=>c1 h.1
  refine fof (fun i=>if i=14 then Y0 8 9 else []) Tryz.func66 ?_;dsimp only[Tryz.f66]
  push_cast -dsimp
  refine cl (hch) ?_;push_cast -dsimp [c1]
  exact dn (by push_cast -dsimp [zb,za,CLe,ze,hn])
 by_cases c2:z8 w.pool
 case neg =>
  have hn:¬YW w:=fun h=>c2 h.2.1
  rw[decide_eq_false c2]at hri
  refine fof (fun i=>if i=14 then Y0 8 9 else []) Tryz.func66 ?_;dsimp only[Tryz.f66]
  push_cast -dsimp
  refine cl (hch) ?_;push_cast -dsimp [c1]
  refine cl (hq) ?_;push_cast -dsimp
  refine cl (hri) ?_;push_cast -dsimp
  exact dn (by push_cast -dsimp [zb,za,CLe,ze,hn])
 rw[decide_eq_true c2]at hri
 refine fof (fun i=>if i=14 then Y0 8 9 else []) Tryz.func66 ?_;dsimp only[Tryz.f66]
 push_cast -dsimp
 refine cl (hch) ?_;push_cast -dsimp [c1]
 refine cl (hq) ?_;push_cast -dsimp
 refine cl (hri) ?_;push_cast -dsimp
 refine loop (fun i:Nat=>⟨[(1,.ptr 0 0),(3,.sc (.int .i64 i))],[vC w],0,0⟩) (fun i=>i<=w.pool.length/\∀ x∈w.pool.take i,qg w x) (fun i=>w.pool.length-i) 0 ⟨Nat.zero_le _,fun x hx=>by simp at hx⟩ ?_ ?_
 ·exact wk
 rintro i ⟨h1,h2⟩
 by_cases h:i<w.pool.length
 ·have g:=qD w.pool i h
  have hn:=hw.pool.node _ (List.getElem_mem h)
  have hpo:=ul w w.pool[i] (by omega) (by omega) (by omega) (by omega)
  by_cases c3:qg w w.pool[i]
  ·rw[decide_eq_true c3]at hpo
   push_cast -dsimp [hpl,h,g]
   repeat refine an ?_
   refine cl (hpo) ?_;push_cast -dsimp
   repeat refine an ?_
   exact ⟨i+1,⟨h,zQ h h2 c3⟩,by omega,wk⟩
  ·rw[decide_eq_false c3]at hpo
   have hn:¬YW w:=fun q=>c3 (q.2.2.1 _ (List.getElem_mem h))
   push_cast -dsimp [hpl,h,g]
   repeat refine an ?_
   refine cl (hpo) ?_;push_cast -dsimp
   exact dn (by push_cast -dsimp [zb,za,CLe,ze,hn])
 rw[List.take_of_length_le (by omega)]at h2
 have hs0:Xb []:=⟨List.Pairwise.nil,fun k hk=>by cases hk⟩
 have hl0:jF []=0:=rfl
 push_cast -dsimp [hpl,h]
 clear hri hq hch
 refine loop (fun i:Nat=>⟨[(1,.ptr 0 0),(4,.sc (.int .i64 (jF (w.kept.take i)))),(5,.sc (.int .i64 i))],[vC w],0,0⟩) (fun i=>i<=w.kept.length/\Xb (w.kept.take i)/\∀ k∈w.kept.take i,YS w k) (fun i=>w.kept.length-i) 0 ⟨Nat.zero_le _,by rw[List.take_zero];exact hs0,fun x hx=>by simp at hx⟩ ?_ ?_
 ·exact wk (by push_cast -dsimp [zb,za,CLe,ze,List.take_zero,hl0])
 rintro i ⟨i1,i2,i3⟩
 by_cases hi:i<w.kept.length
 case neg =>
  rw[List.take_of_length_le (by omega)]at i2 i3
  have hn:YW w:=⟨c1,c2,h2,i2,i3⟩
  push_cast -dsimp [hkl,hi]
  exact dn (by push_cast -dsimp [zb,za,CLe,ze,hn])
 have g:=YI w.kept i hi
 have hlt:=Ul hi
 have hst:w.kept.take (i+1)=w.kept.take i++[w.kept[i]]:=by rw[List.take_add_one,List.getElem?_eq_getElem hi];rfl
 have hbad1:¬jF (w.kept.take i)<w.kept[i].slot->¬YW w:=fun hn q=>hn (VW.1 (by
  rw[←hst]
  exact ⟨q.2.2.2.1.1.sublist (List.take_sublist _ _),fun k hk=>q.2.2.2.1.2 k (List.mem_of_mem_take hk)⟩)).2
 have hbad2:¬YS w w.kept[i]->¬YW w:=fun hn q=>hn (q.2.2.2.2 _ (List.getElem_mem hi))
 have hgood:jF (w.kept.take i)<w.kept[i].slot->Xb (w.kept.take (i+1)):=fun q=>by rw[hst];exact VW.2 ⟨i2,q⟩
 have hgood2:YS w w.kept[i]->∀ k∈w.kept.take (i+1),YS w k:=fun q=>zQ hi i3 q
 have hg1:=jb (G:=G0) w.fs w.kept[i].ino (by omega)
 have hq:=Uw (G:=G0) w
 have hg2:=jb (G:=G0) ⟨0,0,0,w.pool⟩ w.kept[i].ino (by simp only;omega)
 simp only at hg2
 generalize w.kept[i]=k at g hlt hbad1 hbad2 hgood hgood2 hg1 hg2
 generalize jF (w.kept.take i)=la at hbad1 hgood
 clear hst i2 i3
 by_cases d1:k.slot<=la
 ·have hn:=hbad1 (by omega)
  push_cast -dsimp [hkl,hi,g]
  repeat refine an ?_
  refine cl (hg1) ?_;push_cast -dsimp
  refine cl (hq) ?_;push_cast -dsimp
  refine cl (hg2) ?_;push_cast -dsimp [d1]
  exact dn (by push_cast -dsimp [zb,za,CLe,ze,hn])
 have hgd:=hgood (by omega)
 by_cases d2:1073741824<k.slot
 ·have hn:=hbad2 fun q=>by have:=q.1;omega
  push_cast -dsimp [hkl,hi,g]
  repeat refine an ?_
  refine cl (hg1) ?_;push_cast -dsimp
  refine cl (hq) ?_;push_cast -dsimp
  refine cl (hg2) ?_;push_cast -dsimp [d1,d2]
  exact dn (by push_cast -dsimp [zb,za,CLe,ze,hn])
 cases e2:zw k.ino w.pool with
 | true =>
  rw[e2]at hg2
  by_cases d4:k.content=true
  ·by_cases d5:(zf k.ino w.pool).kind=1
   ·have hok:YS w k:=⟨by omega,.inr e2,fun _=>by rw[if_pos e2];exact d5,fun q=>by rw[d4]at q;cases q⟩
    cases e1:zw k.ino w.fs.xs <;>
    ·rw[e1]at hg1
     push_cast -dsimp [hkl,hi,g]
     repeat refine an ?_
     refine cl (hg1) ?_;push_cast -dsimp
     refine cl (hq) ?_;push_cast -dsimp
     refine cl (hg2) ?_;push_cast -dsimp [d1,d2,d4,d5]
     repeat refine an ?_
     exact ⟨i+1,⟨hi,hgd,hgood2 hok⟩,by omega,wk (by push_cast -dsimp [zb,za,CLe,ze,hlt])⟩
   ·have hn:=hbad2 fun q=>d5 (by have:=q.2.2.1 d4;rwa [if_pos e2]at this)
    cases e1:zw k.ino w.fs.xs <;>
    ·rw[e1]at hg1
     push_cast -dsimp [hkl,hi,g]
     repeat refine an ?_
     refine cl (hg1) ?_;push_cast -dsimp
     refine cl (hq) ?_;push_cast -dsimp
     refine cl (hg2) ?_;push_cast -dsimp [d1,d2,d4,d5]
     exact dn (by push_cast -dsimp [zb,za,CLe,ze,hn])
  ·have d4:=Bool.eq_false_iff.2 d4
   by_cases d6:k.data = []
   ·have hok:YS w k:=⟨by omega,.inr e2,fun q=>(by rw[d4]at q;cases q),fun _=>d6⟩
    cases e1:zw k.ino w.fs.xs <;>
    ·rw[e1]at hg1
     push_cast -dsimp [hkl,hi,g]
     repeat refine an ?_
     refine cl (hg1) ?_;push_cast -dsimp
     refine cl (hq) ?_;push_cast -dsimp
     refine cl (hg2) ?_;push_cast -dsimp [d1,d2,d4,d6]
     repeat refine an ?_
     exact ⟨i+1,⟨hi,hgd,hgood2 hok⟩,by omega,wk (by push_cast -dsimp [zb,za,CLe,ze,hlt])⟩
   ·have hn:=hbad2 fun q=>d6 (q.2.2.2 d4)
    cases e1:zw k.ino w.fs.xs <;>
    ·rw[e1]at hg1
     push_cast -dsimp [hkl,hi,g]
     repeat refine an ?_
     refine cl (hg1) ?_;push_cast -dsimp
     refine cl (hq) ?_;push_cast -dsimp
     refine cl (hg2) ?_;push_cast -dsimp [d1,d2,d4,d6]
     exact dn (by push_cast -dsimp [zb,za,CLe,ze,hn])
 | false =>
  rw[e2]at hg2
  cases e1:zw k.ino w.fs.xs with
  | false =>
   rw[e1]at hg1
   have hn:=hbad2 fun q=>by
    rcases q.2.1 with q | q
    ·rw[e1]at q;cases q
    ·rw[e2]at q;cases q
   push_cast -dsimp [hkl,hi,g]
   repeat refine an ?_
   refine cl (hg1) ?_;push_cast -dsimp
   refine cl (hq) ?_;push_cast -dsimp
   refine cl (hg2) ?_;push_cast -dsimp [d1,d2]
   exact dn (by push_cast -dsimp [zb,za,CLe,ze,hn])
  | true =>
   rw[e1]at hg1
   have e2':¬zw k.ino w.pool=true:=by rw[e2];decide
   by_cases d4:k.content=true
   ·by_cases d5:(zf k.ino w.fs.xs).kind=1
    ·have hok:YS w k:=⟨by omega,.inl e1,fun _=>by rw[if_neg e2'];exact d5,fun q=>by rw[d4]at q;cases q⟩
     push_cast -dsimp [hkl,hi,g]
     repeat refine an ?_
     refine cl (hg1) ?_;push_cast -dsimp
     refine cl (hq) ?_;push_cast -dsimp
     refine cl (hg2) ?_;push_cast -dsimp [d1,d2,d4,d5]
     repeat refine an ?_
     exact ⟨i+1,⟨hi,hgd,hgood2 hok⟩,by omega,wk (by push_cast -dsimp [zb,za,CLe,ze,hlt])⟩
    ·have hn:=hbad2 fun q=>d5 (by have:=q.2.2.1 d4;rwa [if_neg e2']at this)
     push_cast -dsimp [hkl,hi,g]
     repeat refine an ?_
     refine cl (hg1) ?_;push_cast -dsimp
     refine cl (hq) ?_;push_cast -dsimp
     refine cl (hg2) ?_;push_cast -dsimp [d1,d2,d4,d5]
     exact dn (by push_cast -dsimp [zb,za,CLe,ze,hn])
   ·have d4:=Bool.eq_false_iff.2 d4
    by_cases d6:k.data = []
    ·have hok:YS w k:=⟨by omega,.inl e1,fun q=>(by rw[d4]at q;cases q),fun _=>d6⟩
     push_cast -dsimp [hkl,hi,g]
     repeat refine an ?_
     refine cl (hg1) ?_;push_cast -dsimp
     refine cl (hq) ?_;push_cast -dsimp
     refine cl (hg2) ?_;push_cast -dsimp [d1,d2,d4,d6]
     repeat refine an ?_
     exact ⟨i+1,⟨hi,hgd,hgood2 hok⟩,by omega,wk (by push_cast -dsimp [zb,za,CLe,ze,hlt])⟩
    ·have hn:=hbad2 fun q=>d6 (q.2.2.2 d4)
     push_cast -dsimp [hkl,hi,g]
     repeat refine an ?_
     refine cl (hg1) ?_;push_cast -dsimp
     refine cl (hq) ?_;push_cast -dsimp
     refine cl (hg2) ?_;push_cast -dsimp [d1,d2,d4,d6]
     exact dn (by push_cast -dsimp [zb,za,CLe,ze,hn])
theorem zfH.m {w:qd} (h:zfH w):zqL w:=⟨h.2.1.fs,by have:=h.2.2.2;omega,UQ.fs (f:=⟨0,0,0,w.pool⟩) h.2.2.1⟩
theorem zfp (w:qd):Fun Tryz.prog G0 28 [N0 w] (qe (decide (okW w))) 0:=by
 by_cases c:zfH w
 ·have h1:=ku w
  have h2:=yr w c.m
  rw[decide_eq_true c]at h1
  have e:decide (okW w)=decide (YW w):=by by_cases r:YW w<;>simp[okW,c,r]
  refine fon Tryz.func28 ?_;dsimp only[Tryz.f28]
  push_cast -dsimp
  refine cl (h1) ?_;push_cast -dsimp
  refine cl (h2) ?_;push_cast -dsimp
  exact dn (by push_cast -dsimp [zb,za,CLe,ze,e])
 ·have h1:=ku w
  rw[decide_eq_false c]at h1
  have e:¬okW w:=fun h=>c h.1
  refine fon Tryz.func28 ?_;dsimp only[Tryz.f28]
  push_cast -dsimp
  refine cl (h1) ?_;push_cast -dsimp
  exact dn (by push_cast -dsimp [zb,za,CLe,ze,e])
end
section
open Go.RowKit
section
variable {G:zk}
theorem zes (n:Nat) (hn:n<=200000) (h0:0<n):Y1 Tryz.prog G 161 [.sc (.slice none 0 0),.sc (.int .i64 n)] [] 0 (fun r bx' m=>m=0/\∃ (c:Nat) (B:List C),n<=c/\c<=9223372036854775807/\B.length=c*5/\(B.all C.stayB)=true/\r = .bs 0 0 5 0 c/\bx' = [B]):=by
 have hp:((n:Int)<0)=False:=eq_false (by omega)
 have hq:((0:Int)<(n:Int))=True:=eq_true (by omega)
 refine foX (fun i=>if i=1000000+37 then [true,true] else []) Tryz.func161 ?_;dsimp only[Tryz.f161]
 push_cast -dsimp [hp,hq]
 refine ⟨⟨by omega,by omega⟩,zeu zfJ zmE zga rfl (by decide) rfl (by omega) (by omega) (by omega) (fun c h1 h2=>?_)⟩
 push_cast -dsimp
 have hm:(n:Int).toNat=n:=by omega
 rw[hm]at h1
 have h2:c<=9223372036854775807:=h2
 refine ⟨by omega,by omega,_,[(List.replicate n [C.sc (.int .i64 0),C.sc (.int .i64 0),C.str [],C.str [],C.str []]).flatten++List.replicate ((c-n)*5) C.any],0,⟨⟨rfl,c,_,h1,h2,?_,?_,rfl,rfl⟩,Nat.zero_le _⟩,[],rfl,rfl,?_,by push_cast -dsimp [zb,za,CLe,ze]⟩
 ·simp[hm];omega
 ·simp[List.all_append,List.all_replicate,C.stayB]
 ·push_cast -dsimp [zb,za,CLe,ze]
  exact z6 (by simp[List.all_append,List.all_replicate,C.stayB])
theorem uC:Fun Tryz.prog G 124 [.sc (.slice none 0 0),.sc (.int .i64 0)] (.sc (.slice none 0 0)) 0:=by
 refine fon Tryz.func124 ?_;dsimp only[Tryz.f124]
 push_cast -dsimp
 exact dn
theorem zc1 (n:Nat) (hn:n<=200000) (h0:0<n):Y1 Tryz.prog G 124 [.sc (.slice none 0 0),.sc (.int .i64 n)] [] 0 (fun r bx' m=>m=0/\∃ (c:Nat) (B:List C),n<=c/\c<=9223372036854775807/\B.length=c*1/\(B.all C.stayB)=true/\r = .bs 0 0 1 0 c/\bx' = [B]):=by
 have hp:((n:Int)<0)=False:=eq_false (by omega)
 have hq:((0:Int)<(n:Int))=True:=eq_true (by omega)
 refine foX (fun i=>if i=1000000+30 then [true,true] else []) Tryz.func124 ?_;dsimp only[Tryz.f124]
 push_cast -dsimp [hp,hq]
 refine ⟨⟨by omega,by omega⟩,zeu UF zmE zfC rfl (by decide) rfl (by omega) (by omega) (by omega) (fun c h1 h2=>?_)⟩
 push_cast -dsimp
 have hm:(n:Int).toNat=n:=by omega
 rw[hm]at h1
 have h2:c<=9223372036854775807:=h2
 refine ⟨by omega,by omega,_,[(List.replicate n [C.str []]).flatten++List.replicate ((c-n)*1) C.any],0,⟨⟨rfl,c,_,h1,h2,?_,?_,rfl,rfl⟩,Nat.zero_le _⟩,[],rfl,rfl,?_,by push_cast -dsimp [zb,za,CLe,ze]⟩
 ·simp[hm];omega
 ·simp[List.all_append,List.all_replicate,C.stayB]
 ·push_cast -dsimp [zb,za,CLe,ze]
  exact z6 (by simp[List.all_append,List.all_replicate,C.stayB])
end
end
section
open CA CB
open Go.RowKit
def szN (a b:Nat):Nat->Nat
 | 0=>0
 | 1=>a
 | _=>a+b
def zm2 {α:Type} (a b:List α):Nat->List α
 | 0=>[]
 | 1=>a
 | _=>a++b
structure Gk (k c:Nat) (a b:List (List C)) (j:Nat) (X:List C):Prop where
 len:X.length=c*k
 stay:(X.all C.stayB)=true
 cells:X.take (szN a.length b.length j*k)=(zm2 a b j).flatten
theorem Gk.step {k c:Nat} {a b r:List (List C)} {j:Nat} {X:List C} (h:Gk k c a b j X) (hr:zm2 a b (j+1)=zm2 a b j++r) (hn:szN a.length b.length (j+1)=szN a.length b.length j+r.length) (hk:∀ x∈r,x.length=k) (hs:jp r) (hc:szN a.length b.length (j+1)<=c) :
  Gk k c a b (j+1) (spl X (szN a.length b.length j*k) r.flatten):=by
 have hf:=zB hk
 obtain ⟨h1,h2,h3⟩:=h
 have hle:(szN a.length b.length j+r.length)*k<=c*k:=Nat.mul_le_mul_right k (by omega)
 rw[Nat.add_mul]at hle
 refine ⟨by rw[HR (by omega)];exact h1,?_,?_⟩
 ·unfold spl
  rw[List.all_append,List.all_append,Bool.and_eq_true,Bool.and_eq_true]
  rw[List.all_eq_true]at h2
  exact ⟨⟨List.all_eq_true.2 fun x hx=>h2 x (List.mem_of_mem_take hx),Yv hs⟩,List.all_eq_true.2 fun x hx=>h2 x (List.mem_of_mem_drop hx)⟩
 ·unfold spl
  rw[hn,Nat.add_mul,hr,List.flatten_append,←h3,List.append_assoc,List.take_append]
  have e1:(X.take (szN a.length b.length j*k)).length=szN a.length b.length j*k:=by rw[List.length_take];omega
  rw[e1,List.take_of_length_le (by omega),Nat.add_sub_cancel_left,List.take_append,←hf,List.take_of_length_le (Nat.le_refl _)]
  simp
structure zo7 (k c:Nat) (rows:List (List C)) (B:List C):Prop where
 fit:rows.length<=c
 max:c<=9223372036854775807
 len:B.length=c*k
 stay:(B.all C.stayB)=true
 cells:B.take (rows.length*k)=rows.flatten
theorem zo7.ok {k c e i:Nat} {rows:List (List C)} {B:List C} {bx:List (List C)} (h:zo7 k c rows B) (hb:bx[i]?=some B) (h0:0<rows.length) (hk:∀ r∈rows,r.length=k):zfG [(i,e,k,rows,c)] bx:=
 va hb (Nat.lt_of_lt_of_le h0 h.fit) h.fit h.max h.len hk h.stay h.cells
section
variable {G:zk}
theorem zcI (a b:List (List C)) (ka:∀ r∈a,r.length=5) (kb:∀ r∈b,r.length=5) (sa:jp a) (sb:jp b) (la:a.length<=90000) (lb:b.length<=90000) (h0:0<a.length+b.length) :
  Y1 Tryz.prog G 112 [.sl 1 [[.sl 5 a],[.sl 5 b]]] [] 0 (fun r bx n=>n=0/\∃ c B,zo7 5 c (a++b) B/\r = .bs 0 0 5 (a++b).length c/\bx = [B]):=by
 refine foX (fun i=>if i=1000000+37 then [true,true] else []) Tryz.func112 ?_;dsimp only[Tryz.f112]
 push_cast -dsimp
 refine loop (fun j:Nat=>⟨[(0,.sl 1 [[.sl 5 a],[.sl 5 b]]),(2,.sc (.slice none 0 0)),(3,.sc (.int .i64 (szN a.length b.length j:Nat))),(9,.sl 1 [[.sl 5 a],[.sl 5 b]]),(10,.sc (.int .i64 2)),(11,.sc (.int .i64 j))],[],0,0⟩) (fun j=>j<=2) (fun j=>2-j) 0 (by decide) ?_ ?_
 ·exact wk (by push_cast -dsimp [zb,za,CLe,ze,szN])
 intro j hj
 obtain rfl | rfl | rfl:j=0∨j=1∨j=2:=by omega
 ·have hn:(((a.length:Int))<0)=False:=eq_false (by omega)
  push_cast -dsimp [szN,hn]
  exact ⟨⟨by omega,by omega⟩,1,by decide,by decide,wk (by push_cast -dsimp [zb,za,CLe,ze,szN])⟩
 ·have hn:(((a.length:Int)+(b.length:Int))<0)=False:=eq_false (by omega)
  push_cast -dsimp [szN,hn]
  exact ⟨⟨by omega,by omega⟩,2,by decide,by decide,wk (by push_cast -dsimp [zb,za,CLe,ze,szN])⟩
 ·push_cast -dsimp [szN]
  refine YF [] [] (zes (G:=G) (a.length+b.length) (by omega) (by omega)) rfl (by decide) (by decide) (by simp) (by push_cast -dsimp) (by push_cast -dsimp) (fun r bx' m hp=>?_)
  obtain ⟨rfl,c,B,h1,h2,h3,h4,rfl,rfl⟩:=hp
  have hre:∀ fp fo,C.reL fp fo B=B:=fun fp fo=>qC h4
  push_cast -dsimp [hre]
  refine loop (fun p:Nat×List C=>⟨[(0,.sl 1 [[.sl 5 a],[.sl 5 b]]),(6,.bs 0 0 5 (szN a.length b.length p.1) c),(25,.sl 1 [[.sl 5 a],[.sl 5 b]]),(26,.sc (.int .i64 2)),(27,.sc (.int .i64 p.1))],[p.2],0,0⟩) (fun p=>p.1<=2/\Gk 5 c a b p.1 p.2) (fun p=>2-p.1) (0,B) ⟨Nat.zero_le _,h3,h4,by simp[szN,zm2]⟩ ?_ ?_
  ·exact j8.mk [] rfl rfl (Nat.zero_le _) rfl (by push_cast -dsimp [zb,za,CLe,ze,szN]) (by (push_cast -dsimp [zb,za,CLe,ze];exact z6 h4))
  rintro ⟨j,X⟩ ⟨hj,hX⟩
  have hj:j<=2:=hj
  obtain rfl | rfl | rfl:j=0∨j=1∨j=2:=by omega
  ·have hs:=hX.step (r:=a) rfl (by simp[szN]) ka sa (by simp[szN];omega)
   push_cast -dsimp [szN]
   refine ZZ zfJ zga rfl rfl (by decide) rfl (zB ka) rfl (by rw[hX.len];omega) (Nat.zero_le _) (by omega) (by omega) (fun hc=>?_) (fun hc=>absurd hc (by omega))
   push_cast -dsimp
   have hs:Gk 5 c a b 1 (spl X 0 a.flatten):=by simpa [szN] using hs
   exact ⟨(1,spl X 0 a.flatten),⟨Nat.le_succ 1,hs⟩,by (simp only;omega),j8.mk [] rfl rfl (Nat.zero_le _) rfl (by push_cast -dsimp [zb,za,CLe,ze,szN]) (by (push_cast -dsimp [zb,za,CLe,ze];exact z6 hs.stay))⟩
  ·have hs:=hX.step (r:=b) rfl (by simp[szN]) kb sb (by simp[szN];omega)
   push_cast -dsimp [szN]
   refine ZZ zfJ zga rfl rfl (by decide) rfl (zB kb) rfl (by rw[hX.len];omega) (by omega) (by omega) (by omega) (fun hc=>?_) (fun hc=>absurd hc (by omega))
   push_cast -dsimp
   have hs:Gk 5 c a b 2 (spl X (a.length*5) b.flatten):=by simpa [szN] using hs
   exact ⟨(2,spl X (a.length*5) b.flatten),⟨Nat.le_refl 2,hs⟩,by (simp only;omega),j8.mk [] rfl rfl (Nat.zero_le _) rfl (by push_cast -dsimp [zb,za,CLe,ze,szN]) (by (push_cast -dsimp [zb,za,CLe,ze];exact z6 hs.stay))⟩
  ·push_cast -dsimp [szN]
   exact ⟨_,[X],0,⟨⟨rfl,c,X,⟨by rw[List.length_append];omega,h2,hX.len,hX.stay,by rw[List.length_append];exact hX.cells⟩,rfl,rfl⟩,Nat.zero_le _⟩,[],rfl,rfl,by (push_cast -dsimp [zb,za,CLe,ze];exact z6 hX.stay),by push_cast -dsimp [zb,za,CLe,ze,List.length_append]⟩
theorem Nr (a b:List (List C)) (ka:∀ r∈a,r.length=1) (kb:∀ r∈b,r.length=1) (sa:jp a) (sb:jp b) (la:a.length<=90000) (lb:b.length<=90000) (h0:0<a.length+b.length) :
  Y1 Tryz.prog G 75 [.sl 1 [[.sl 1 a],[.sl 1 b]]] [] 0 (fun r bx n=>n=0/\∃ c B,zo7 1 c (a++b) B/\r = .bs 0 0 1 (a++b).length c/\bx = [B]):=by
 refine foX (fun i=>if i=1000000+30 then [true,true] else []) Tryz.func75 ?_;dsimp only[Tryz.f75]
 push_cast -dsimp
 refine loop (fun j:Nat=>⟨[(0,.sl 1 [[.sl 1 a],[.sl 1 b]]),(2,.sc (.slice none 0 0)),(3,.sc (.int .i64 (szN a.length b.length j:Nat))),(9,.sl 1 [[.sl 1 a],[.sl 1 b]]),(10,.sc (.int .i64 2)),(11,.sc (.int .i64 j))],[],0,0⟩) (fun j=>j<=2) (fun j=>2-j) 0 (by decide) ?_ ?_
 ·exact wk (by push_cast -dsimp [zb,za,CLe,ze,szN])
 intro j hj
 obtain rfl | rfl | rfl:j=0∨j=1∨j=2:=by omega
 ·have hn:(((a.length:Int))<0)=False:=eq_false (by omega)
  push_cast -dsimp [szN,hn]
  exact ⟨⟨by omega,by omega⟩,1,by decide,by decide,wk (by push_cast -dsimp [zb,za,CLe,ze,szN])⟩
 ·have hn:(((a.length:Int)+(b.length:Int))<0)=False:=eq_false (by omega)
  push_cast -dsimp [szN,hn]
  exact ⟨⟨by omega,by omega⟩,2,by decide,by decide,wk (by push_cast -dsimp [zb,za,CLe,ze,szN])⟩
 ·push_cast -dsimp [szN]
  refine YF [] [] (zc1 (G:=G) (a.length+b.length) (by omega) (by omega)) rfl (by decide) (by decide) (by simp) (by push_cast -dsimp) (by push_cast -dsimp) (fun r bx' m hp=>?_)
  obtain ⟨rfl,c,B,h1,h2,h3,h4,rfl,rfl⟩:=hp
  have hre:∀ fp fo,C.reL fp fo B=B:=fun fp fo=>qC h4
  push_cast -dsimp [hre]
  refine loop (fun p:Nat×List C=>⟨[(0,.sl 1 [[.sl 1 a],[.sl 1 b]]),(6,.bs 0 0 1 (szN a.length b.length p.1) c),(25,.sl 1 [[.sl 1 a],[.sl 1 b]]),(26,.sc (.int .i64 2)),(27,.sc (.int .i64 p.1))],[p.2],0,0⟩) (fun p=>p.1<=2/\Gk 1 c a b p.1 p.2) (fun p=>2-p.1) (0,B) ⟨Nat.zero_le _,h3,h4,by simp[szN,zm2]⟩ ?_ ?_
  ·exact j8.mk [] rfl rfl (Nat.zero_le _) rfl (by push_cast -dsimp [zb,za,CLe,ze,szN]) (by (push_cast -dsimp [zb,za,CLe,ze];exact z6 h4))
  rintro ⟨j,X⟩ ⟨hj,hX⟩
  have hj:j<=2:=hj
  obtain rfl | rfl | rfl:j=0∨j=1∨j=2:=by omega
  ·have hs:=hX.step (r:=a) rfl (by simp[szN]) ka sa (by simp[szN];omega)
   push_cast -dsimp [szN]
   refine ZZ UF zfC rfl rfl (by decide) rfl (zB ka) rfl (by rw[hX.len];omega) (Nat.zero_le _) (by omega) (by omega) (fun hc=>?_) (fun hc=>absurd hc (by omega))
   push_cast -dsimp
   have hs:Gk 1 c a b 1 (spl X 0 a.flatten):=by simpa [szN] using hs
   exact ⟨(1,spl X 0 a.flatten),⟨Nat.le_succ 1,hs⟩,by (simp only;omega),j8.mk [] rfl rfl (Nat.zero_le _) rfl (by push_cast -dsimp [zb,za,CLe,ze,szN]) (by (push_cast -dsimp [zb,za,CLe,ze];exact z6 hs.stay))⟩
  ·have hs:=hX.step (r:=b) rfl (by simp[szN]) kb sb (by simp[szN];omega)
   push_cast -dsimp [szN]
   refine ZZ UF zfC rfl rfl (by decide) rfl (zB kb) rfl (by rw[hX.len];omega) (by omega) (by omega) (by omega) (fun hc=>?_) (fun hc=>absurd hc (by omega))
   push_cast -dsimp
   have hs:Gk 1 c a b 2 (spl X (a.length) b.flatten):=by simpa [szN] using hs
   exact ⟨(2,spl X (a.length) b.flatten),⟨Nat.le_refl 2,hs⟩,by (simp only;omega),j8.mk [] rfl rfl (Nat.zero_le _) rfl (by push_cast -dsimp [zb,za,CLe,ze,szN]) (by (push_cast -dsimp [zb,za,CLe,ze];exact z6 hs.stay))⟩
  ·push_cast -dsimp [szN]
   exact ⟨_,[X],0,⟨⟨rfl,c,X,⟨by rw[List.length_append];omega,h2,hX.len,hX.stay,by rw[List.length_append];exact hX.cells⟩,rfl,rfl⟩,Nat.zero_le _⟩,[],rfl,rfl,by (push_cast -dsimp [zb,za,CLe,ze];exact z6 hX.stay),by push_cast -dsimp [zb,za,CLe,ze,List.length_append]⟩
theorem GU:Fun Tryz.prog G 75 [.sl 1 [[.sl 1 []],[.sl 1 []]]] (.sl 1 []) 0:=by
 refine fon Tryz.func75 ?_;dsimp only[Tryz.f75]
 push_cast -dsimp
 refine loop (fun j:Nat=>⟨[(0,.sl 1 [[.sl 1 []],[.sl 1 []]]),(2,.sc (.slice none 0 0)),(3,.sc (.int .i64 0)),(9,.sl 1 [[.sl 1 []],[.sl 1 []]]),(10,.sc (.int .i64 2)),(11,.sc (.int .i64 j))],[],0,0⟩) (fun j=>j<=2) (fun j=>2-j) 0 (by decide) ?_ ?_
 ·exact wk
 intro j hj
 obtain rfl | rfl | rfl:j=0∨j=1∨j=2:=by omega
 ·push_cast -dsimp
  exact ⟨1,by decide,by decide,wk⟩
 ·push_cast -dsimp
  exact ⟨2,by decide,by decide,wk⟩
 ·push_cast -dsimp
  refine cl (uC) ?_;push_cast -dsimp
  refine loop (fun j:Nat=>⟨[(0,.sl 1 [[.sl 1 []],[.sl 1 []]]),(6,.own 0 9 1 []),(25,.sl 1 [[.sl 1 []],[.sl 1 []]]),(26,.sc (.int .i64 2)),(27,.sc (.int .i64 j))],[],1,0⟩) (fun j=>j<=2) (fun j=>2-j) 0 (by decide) ?_ ?_
  ·exact wks [.inr (9,1)]
  intro j hj
  obtain rfl | rfl | rfl:j=0∨j=1∨j=2:=by omega
  ·push_cast -dsimp
   exact ⟨1,by decide,by decide,wks [.inl 0]⟩
  ·push_cast -dsimp
   exact ⟨2,by decide,by decide,wks [.inl 0]⟩
  ·push_cast -dsimp
   exact dn
end
end
end Go.Proofs.YtaipngaejfndgaaGreatDoor.Vcg
section
namespace Go.Proofs.YtaipngaejfndgaaGreatDoor.Kit
open Go.RowKit
theorem kl {a b:ByteArray} (h:a=b):Ending.returned (.string a) = .returned (.string b):=by rw[h]
def toL (s:ByteArray):List UInt8:=s.data.toList
def ofL (l:List UInt8):ByteArray:=⟨l.toArray⟩
@[simp] theorem zft (l:List UInt8):toL (ofL l)=l:=by simp[toL,ofL]
@[simp] theorem zpP (s:ByteArray):ofL (toL s)=s:=by cases s;simp[toL,ofL]
theorem UZ (a b:List UInt8):ofL a++ofL b=ofL (a++b):=ByteArray.mk_append_mk a b
theorem Gn (s:ByteArray):(toL s).length=s.size:=Array.length_toList
theorem Qi (l:List UInt8):(ofL l).size=l.length:=by rw[←Gn,zft]
def join (sep:ByteArray) (xs:List ByteArray):ByteArray:=⟨(Lib.join (xs.map (·.data.toList)) sep.data.toList).toArray⟩
theorem join_one (sep x:ByteArray):join sep [x]=x:=by
 cases x;simp[join,Lib.join_one]
end Go.Proofs.YtaipngaejfndgaaGreatDoor.Kit
end
section
namespace Go.Proofs.YtaipngaejfndgaaGreatDoor.Kit
open Go.RowKit
def byteCells (l:List UInt8):Array Value:=(l.map fun c=>Value.int .u8 (c.toNat:Int)).toArray
theorem V3 (w:World) (l:List UInt8) (T:TypeId) (fr:Nat×Nat) (n:Nat) (hn:n=w.heap.size):Lib.Bytes (w.alloc (.cells (byteCells l) T fr)) n 0 (ofL l):=by
 intro i h
 subst hn
 have h1:(w.alloc (.cells (byteCells l) T fr)).heap[w.heap.size]?=some (.cells (byteCells l) T fr):=by
  show (w.heap.push _)[w.heap.size]?=_
  rw[Array.getElem?_push,if_pos rfl]
 simp only[World.cell?,h1]
 show (byteCells l)[0+i]?=_
 have h2:i<l.length:=by rw[Qi]at h;exact h
 rw[Nat.zero_add,byteCells,List.getElem?_toArray,List.getElem?_map,List.getElem?_eq_getElem h2]
 rfl
theorem Gq {P:Program} (w:World) (l:List UInt8) (src e dst:TypeId) (hs:P.underlying src=some (.slice e)) (he:P.underlying e=some (.int .u8)) (hd:P.underlying dst=some .string) (cs:Array Value) (hcs:cs=byteCells l) (fr:Nat×Nat) (m cap n:Nat) (hm:m=w.heap.size) (hn:n=l.length) :
  (convert src dst (.slice (some ⟨m,0,none⟩) n cap)).run P (w.alloc (.cells cs e fr)) = .ok (.string (ofL l)) (w.alloc (.cells cs e fr)):=by
 subst hcs hm hn
 have:=Lib.run_convert_whole (P:=P) (w.alloc (.cells (byteCells l) e fr)) src e dst hs he hd w.heap.size 0 (ofL l) (V3 w l e fr _ rfl) cap
 rw[Qi]at this
 exact this
end Go.Proofs.YtaipngaejfndgaaGreatDoor.Kit
end
section
namespace Go.Proofs.YtaipngaejfndgaaGreatDoor
open Go.RowKit
namespace QuoteWalk
open Kit QuotePlain
theorem Ml {c:UInt8} (h:good c=false):¬(32:Int)<=(c.toNat:Int)∨((32:Int)<=(c.toNat:Int)/\¬(c.toNat:Int)<=126)∨((32:Int)<=(c.toNat:Int)/\(c.toNat:Int)<=126/\((c.toNat:Int) != 34)=false) ∨
  ((32:Int)<=(c.toNat:Int)/\(c.toNat:Int)<=126/\((c.toNat:Int) != 34)=true/\((c.toNat:Int) != 92)=false):=by
 simp only[good,decide_eq_false_iff_not]at h
 simp only[bne_iff_ne,ne_eq,bne_eq_false_iff_eq]
 omega
theorem kB {c:UInt8} (h:good c=true):(32:Int)<=(c.toNat:Int)/\(c.toNat:Int)<=126/\((c.toNat:Int) != 34)=true/\((c.toNat:Int) != 92)=true:=by
 simp only[good,decide_eq_true_eq]at h
 refine ⟨by omega,by omega,?_,?_⟩<;>(simp only[bne_iff_ne,ne_eq];omega)
theorem ye (c:UInt8) (w:World) :
  Calls Tryz.prog 214 #[.int .u8 c.toNat] w fun e w'=>e = .returned (.bool (good c))/\w=w':=by
 have hc:=c.toNat_lt
 cases hg:good c with
 | true =>
  obtain ⟨g1,g2,g3,g4⟩:=kB hg
  clear hg
  go_enter Tryz.func214,Tryz.ntmps214
  go_wp2
  go_ret
  exact ⟨rfl,rfl⟩
 | false =>
  rcases Ml hg with h | ⟨h0,h⟩ | ⟨h0,h1,h2⟩ | ⟨h0,h1,h2,h3⟩
  all_goals clear hg
  ·go_enter Tryz.func214,Tryz.ntmps214
   go_wp2
   go_ret
   exact ⟨rfl,rfl⟩
  ·go_enter Tryz.func214,Tryz.ntmps214
   go_wp2
   go_ret
   exact ⟨rfl,rfl⟩
  ·go_enter Tryz.func214,Tryz.ntmps214
   go_wp2
   go_ret
   exact ⟨rfl,rfl⟩
  ·go_enter Tryz.func214,Tryz.ntmps214
   go_wp2
   go_ret
   exact ⟨rfl,rfl⟩
theorem Mr (c:UInt8) (w:World) (hg:good c=true) :
  Calls Tryz.prog 118 #[.int .u8 c.toNat] w fun e w'=>e = .returned (.string (ofL (qb c)))/\Below w.heap.size w w':=by
 have hc:=c.toNat_lt
 have hq:=Lib.hid (show qb c = [c] by rw[qb,if_pos hg])
 obtain ⟨g1,g2,g3,g4⟩:=kB hg
 have hcv:=Gq (P:=Tryz.prog) w [c] 164 5 9 Tryz.underlying164 Tryz.underlying5 Tryz.underlying9 #[.int .u8 c.toNat] rfl (0,0) w.heap.size 1 1 rfl rfl
 clear hg
 go_enter Tryz.func118,Tryz.ntmps118
 go_wp2
 go_ret
 exact ⟨by rw[hq.out];rfl,(Below.refl _ _).alloc (Nat.le_refl _) _⟩
theorem zqN (n:Nat) (h:n<16) (w:World):(Instr.index 9 (.string ⟨#[48,49,50,51,52,53,54,55,56,57,97,98,99,100,101,102]⟩) (.int .u8 (n:Int))).run Tryz.prog w = .ok (.int .u8 ((Hn n).toNat:Int)) w:=by
 rcases (by omega:n=0∨n=1∨n=2∨n=3∨n=4∨n=5∨n=6∨n=7∨n=8∨n=9∨n=10∨n=11∨n=12∨n=13∨n=14∨n=15) with rfl | rfl | rfl | rfl | rfl | rfl | rfl | rfl | rfl | rfl | rfl | rfl | rfl | rfl | rfl | rfl
 all_goals kernel_rfl
theorem zja (c:UInt8) (w:World):(Instr.index 9 (.string ⟨#[48,49,50,51,52,53,54,55,56,57,97,98,99,100,101,102]⟩) (.int .u8 ((c.toNat:Int) / 16))).run Tryz.prog w = .ok (.int .u8 ((Hn (c.toNat / 16)).toNat:Int)) w:=
 zqN (c.toNat / 16) (by have:=c.toNat_lt;omega) w
theorem zjs (c:UInt8) (w:World):(Instr.index 9 (.string ⟨#[48,49,50,51,52,53,54,55,56,57,97,98,99,100,101,102]⟩) (.int .u8 ((c.toNat:Int) % 16))).run Tryz.prog w = .ok (.int .u8 ((Hn (c.toNat % 16)).toNat:Int)) w:=
 zqN (c.toNat % 16) (by omega) w
theorem zj1 (c:UInt8):IntKind.u8.wrap ((c.toNat:Int) / 16)=(c.toNat:Int) / 16:=by
 have:=c.toNat_lt
 exact IntWalk.u8_in _ (by omega)
theorem zjN (c:UInt8):IntKind.u8.wrap ((c.toNat:Int) % 16)=(c.toNat:Int) % 16:=by
 have:=c.toNat_lt
 exact IntWalk.u8_in _ (by omega)
theorem zjL (c:UInt8):(c.toNat:Int).tmod 16=(c.toNat:Int) % 16:=Int.tmod_eq_emod_of_nonneg (by omega)
theorem xS (c:UInt8) (w:World) (hg:good c=false) :
  Calls Tryz.prog 118 #[.int .u8 c.toNat] w fun e w'=>e = .returned (.string (ofL (qb c)))/\Below w.heap.size w w':=by
 have hc:=c.toNat_lt
 have hq:=Lib.hid (show qb c = [92,120,Hn (c.toNat / 16),Hn (c.toNat % 16)] by rw[qb,hg];rfl)
 have hb:=Ml hg
 have x1:=zja c
 have x2:=zjs c
 have y1:=zj1 c
 have y2:=zjN c
 have y3:=zjL c
 have hcv:=fun w2:World=>Gq (P:=Tryz.prog) w2 [92,120,Hn (c.toNat / 16),Hn (c.toNat % 16)] 164 5 9 Tryz.underlying164 Tryz.underlying5 Tryz.underlying9 #[.int .u8 92,.int .u8 120,.int .u8 (Hn (c.toNat / 16)).toNat,.int .u8 (Hn (c.toNat % 16)).toNat] rfl (0,0) w2.heap.size 4 4 rfl rfl
 clear hg
 rcases hb with h | ⟨h0,h⟩ | ⟨h0,h1,h2⟩ | ⟨h0,h1,h2,h3⟩
 ·go_enter Tryz.func118,Tryz.ntmps118
  go_wp2
  go_still_tail 6,(by kernel_rfl)
  change wpList _ _ _ _ _ w.drew
  obtain ⟨w2,hw2,hsz⟩:∃ w2:World,Below w.heap.size w w2/\w2=w.drew:=⟨_,(Below.refl _ _).drew,rfl⟩
  rw[←hsz]
  clear hsz
  go_wp2
  go_ret
  exact ⟨by rw[hq.out];rfl,hw2.alloc hw2.size _⟩
 ·go_enter Tryz.func118,Tryz.ntmps118
  go_wp2
  go_still_tail 6,(by kernel_rfl)
  change wpList _ _ _ _ _ w.drew
  obtain ⟨w2,hw2,hsz⟩:∃ w2:World,Below w.heap.size w w2/\w2=w.drew:=⟨_,(Below.refl _ _).drew,rfl⟩
  rw[←hsz]
  clear hsz
  go_wp2
  go_ret
  exact ⟨by rw[hq.out];rfl,hw2.alloc hw2.size _⟩
 ·go_enter Tryz.func118,Tryz.ntmps118
  go_wp2
  go_still_tail 6,(by kernel_rfl)
  change wpList _ _ _ _ _ w.drew
  obtain ⟨w2,hw2,hsz⟩:∃ w2:World,Below w.heap.size w w2/\w2=w.drew:=⟨_,(Below.refl _ _).drew,rfl⟩
  rw[←hsz]
  clear hsz
  go_wp2
  go_ret
  exact ⟨by rw[hq.out];rfl,hw2.alloc hw2.size _⟩
 ·go_enter Tryz.func118,Tryz.ntmps118
  go_wp2
  go_still_tail 6,(by kernel_rfl)
  change wpList _ _ _ _ _ w.drew
  obtain ⟨w2,hw2,hsz⟩:∃ w2:World,Below w.heap.size w w2/\w2=w.drew:=⟨_,(Below.refl _ _).drew,rfl⟩
  rw[←hsz]
  clear hsz
  go_wp2
  go_ret
  exact ⟨by rw[hq.out];rfl,hw2.alloc hw2.size _⟩
theorem G7 (c:UInt8) (w:World) :
  Calls Tryz.prog 118 #[.int .u8 c.toNat] w fun e w'=>e = .returned (.string (ofL (qb c)))/\Below w.heap.size w w':=by
 cases h:good c with
 | true=>exact Mr c w h
 | false=>exact xS c w h
end QuoteWalk
end Go.Proofs.YtaipngaejfndgaaGreatDoor
end
section
namespace Go.Proofs
open Go.Shelf
def Tryz.zlays166_ren:Go.Shelf.Ren:=⟨fun | 166=>174 | 240=>215 | 276=>249 | n=>n,fun | 0=>0 | 3=>3 | 4=>4 | 9=>9 | 20=>20 | 37=>164 | 70=>207 | 72=>209 | 75=>212 | 164=>270 | 80=>215 | 5=>5 | n=>n,fun | n=>n⟩
theorem Tryz.zlays166:Go.Proofs.Lays.n166 Tryz.prog Tryz.zlays166_ren:={
 mixed:=by kernel_rfl
 f166:=Tryz.func174.trans (congrArg some (by kernel_rfl))
 f240:=Tryz.func215.trans (congrArg some (by kernel_rfl))
 f276:=Tryz.func249.trans (congrArg some (by kernel_rfl))
 t0:=Tryz.underlying0
 a0:=Tryz.isAgg0
 z0:=Tryz.sizeOf0
 v0:=Tryz.zeroValue0
 t3:=Tryz.underlying3
 a3:=Tryz.isAgg3
 z3:=Tryz.sizeOf3
 v3:=Tryz.zeroValue3
 t4:=Tryz.underlying4
 a4:=Tryz.isAgg4
 z4:=Tryz.sizeOf4
 v4:=Tryz.zeroValue4
 t9:=Tryz.underlying9
 a9:=Tryz.isAgg9
 z9:=Tryz.sizeOf9
 v9:=Tryz.zeroValue9
 t20:=Tryz.underlying20
 a20:=Tryz.isAgg20
 z20:=Tryz.sizeOf20
 v20:=Tryz.zeroValue20
 t37:=Tryz.underlying164
 a37:=Tryz.isAgg164
 z37:=Tryz.sizeOf164
 v37:=Tryz.zeroValue164
 t70:=Tryz.underlying207
 a70:=Tryz.isAgg207
 z70:=Tryz.sizeOf207
 v70:=Tryz.zeroValue207
 t72:=Tryz.underlying209
 a72:=Tryz.isAgg209
 z72:=Tryz.sizeOf209
 v72:=Tryz.zeroValue209
 t75:=Tryz.underlying212
 a75:=Tryz.isAgg212
 z75:=Tryz.sizeOf212
 v75:=Tryz.zeroValue212
 t164:=Tryz.underlying270
 a164:=Tryz.isAgg270
 z164:=Tryz.sizeOf270
 v164:=Tryz.zeroValue270 }
theorem Tryz.zBuilder_Extra_166:Builder.Extra Tryz.prog Tryz.zlays166_ren:={
 sizeBuilder:=by kernel_rfl
 liesBuilder:=by kernel_rfl
 t5:=Tryz.underlying5
 a5:=Tryz.isAgg5
 z5:=Tryz.sizeOf5
 v5:=Tryz.zeroValue5
 infoByte:=by kernel_rfl
 cellsByte:=by kernel_rfl
 sizeByte:=by kernel_rfl
 neB5:=by decide }
def Tryz.zlays167_ren:Go.Shelf.Ren:=⟨fun | 167=>213 | 240=>215 | 276=>249 | n=>n,fun | 0=>0 | 4=>4 | 5=>5 | 9=>9 | 20=>20 | 37=>164 | 70=>207 | 72=>209 | 75=>212 | 164=>270 | 80=>215 | n=>n,fun | n=>n⟩
theorem Tryz.zlays167:Go.Proofs.Lays.n167 Tryz.prog Tryz.zlays167_ren:={
 mixed:=by kernel_rfl
 f167:=Tryz.func213.trans (congrArg some (by kernel_rfl))
 f240:=Tryz.func215.trans (congrArg some (by kernel_rfl))
 f276:=Tryz.func249.trans (congrArg some (by kernel_rfl))
 t0:=Tryz.underlying0
 a0:=Tryz.isAgg0
 z0:=Tryz.sizeOf0
 v0:=Tryz.zeroValue0
 t4:=Tryz.underlying4
 a4:=Tryz.isAgg4
 z4:=Tryz.sizeOf4
 v4:=Tryz.zeroValue4
 t5:=Tryz.underlying5
 a5:=Tryz.isAgg5
 z5:=Tryz.sizeOf5
 v5:=Tryz.zeroValue5
 t9:=Tryz.underlying9
 a9:=Tryz.isAgg9
 z9:=Tryz.sizeOf9
 v9:=Tryz.zeroValue9
 t20:=Tryz.underlying20
 a20:=Tryz.isAgg20
 z20:=Tryz.sizeOf20
 v20:=Tryz.zeroValue20
 t37:=Tryz.underlying164
 a37:=Tryz.isAgg164
 z37:=Tryz.sizeOf164
 v37:=Tryz.zeroValue164
 t70:=Tryz.underlying207
 a70:=Tryz.isAgg207
 z70:=Tryz.sizeOf207
 v70:=Tryz.zeroValue207
 t72:=Tryz.underlying209
 a72:=Tryz.isAgg209
 z72:=Tryz.sizeOf209
 v72:=Tryz.zeroValue209
 t75:=Tryz.underlying212
 a75:=Tryz.isAgg212
 z75:=Tryz.sizeOf212
 v75:=Tryz.zeroValue212
 t164:=Tryz.underlying270
 a164:=Tryz.isAgg270
 z164:=Tryz.sizeOf270
 v164:=Tryz.zeroValue270 }
theorem Tryz.zBuilder_Extra_167:Builder.Extra Tryz.prog Tryz.zlays167_ren:={
 sizeBuilder:=by kernel_rfl
 liesBuilder:=by kernel_rfl
 t5:=Tryz.underlying5
 a5:=Tryz.isAgg5
 z5:=Tryz.sizeOf5
 v5:=Tryz.zeroValue5
 infoByte:=by kernel_rfl
 cellsByte:=by kernel_rfl
 sizeByte:=by kernel_rfl
 neB5:=by decide }
open Go.RowKit in
theorem Tryz.zBuilder_WriteByte (B b:Nat) (bs:List Value) (c:Int) (w:World) (h:Lib.IsBuilder 209 5 B b bs w) (hlen:bs.length+1<=140737488355328) (hBw:B<=w.heap.size) :
  Calls Tryz.prog 213 #[.pointer (some ⟨b,0,none⟩),.int .u8 c] w fun e w'=>e = .returned .nilIface/\(Lib.BuilderAt 209 5 B b (.pointer (some ⟨b,0,none⟩)) (bs++[.int .u8 c]) w'/\Below B w w'):=Any.Builder_WriteByte Tryz.zlays167 Tryz.zBuilder_Extra_167 B b bs c w h hlen hBw
open Go.RowKit in
theorem Tryz.zBuilder_WriteString (B b:Nat) (bs:List Value) (s:ByteArray) (w:World) (h:Lib.IsBuilder 209 5 B b bs w) (hlen:bs.length+s.size<=140737488355328) (hBw:B<=w.heap.size) :
  Calls Tryz.prog 174 #[.pointer (some ⟨b,0,none⟩),.string s] w fun e w'=>e = .returned (.tuple #[.int .i64 s.size,.nilIface])/\(Lib.BuilderAt 209 5 B b (.pointer (some ⟨b,0,none⟩)) (bs++Lib.strCells s) w'/\Below B w w'):=Any.Builder_WriteString Tryz.zlays166 Tryz.zBuilder_Extra_166 B b bs s w h hlen hBw
end Go.Proofs
end
section
namespace Go.Proofs.YtaipngaejfndgaaGreatDoor
open Go.RowKit
namespace QuoteWalk
open Kit QuotePlain
def pre (s:ByteArray) (k:Nat):Bs:=34 :: mid ((toL s).take k)
theorem vN (s:ByteArray):pre s 0 = [34]:=by simp[pre,mid]
theorem ue (s:ByteArray) (k:Nat) (h:k<s.size) {c:UInt8} (hc:s[k]=c):pre s (k+1)=pre s k++qb c:=by
 have h':k<(toL s).length:=by rw[Gn];exact h
 have:(toL s)[k]=c:=hc
 rw[pre,pre,List.take_succ_eq_append_getElem h',this,mid,mid,List.flatMap_append]
 simp
theorem ze7 (s:ByteArray) (k:Nat) (h:s.size<=k):pre s k++[34]=zN (toL s):=by
 rw[pre,List.take_of_length_le (by rw[Gn];exact h)];rfl
theorem zjj (c:UInt8):(qb c).length<=4:=by unfold qb;split<;>simp
theorem mid_len (l:Bs):(mid l).length<=4*l.length:=by
 induction l with
 | nil=>simp[mid]
 | cons c l ih =>
  have:=zjj c
  simp only[mid,List.flatMap_cons,List.length_append,List.length_cons]at ih ⊢
  omega
theorem zea (s:ByteArray) (k:Nat):(pre s k).length<=1+4*k:=by
 have h1:=mid_len ((toL s).take k)
 have h2:((toL s).take k).length<=k:=List.length_take_le _ _
 simp only[pre,List.length_cons];omega
theorem refQuote_walk (s:ByteArray) (w:World) (hs:s.size<=1099511627776) :
  Calls Tryz.prog 67 #[.string s] w fun e w'=>e = .returned (.string (ofL (zN (toL s))))/\Below w.heap.size w w':=by
 go_enter Tryz.func67,Tryz.ntmps67
 go_wp2
 go_loopw [3,4] (fun o i wr=>∃ k:Nat,k<=s.size/\i = .int .i64 k/\o = .string (ofL (pre s k))/\Below w.heap.size w wr) (fun _ i _=>s.size-(intOf i).toNat)
 case atStart=>exact ⟨0,by omega,rfl,by rw[vN];rfl,Below.refl _ _⟩
 case round =>
  obtain ⟨k,hk,rfl,rfl,hB⟩:=hrel
  have hpl:=zea s k
  have hps:(ofL (pre s k)).size<=1+4*k:=by rw[Qi];exact hpl
  by_cases hlt:k<s.size
  ·obtain ⟨c,hc⟩:∃ c,s[k]=c:=⟨_,rfl⟩
   have hsn:=Lib.hid (ue s k hlt hc)
   have hql:=zjj c
   have hqs:(ofL (qb c)).size<=4:=by rw[Qi];exact hql
   generalize hp:ofL (pre s k)=p at *
   have hp':=Lib.hid hp
   clear hp
   go_wp2_with fail
   refine (G7 c _).mono ?_
   rintro e w1 ⟨rfl,hb1⟩
   generalize hq:ofL (qb c)=q at *
   have hq':=Lib.hid hq
   clear hq
   go_wp2
   go_roundw
   case rel=>exact ⟨k+1,by omega,by go_num,by rw[hsn.out,←UZ,hp'.out,hq'.out],hB.trans (hb1.mono hB.size)⟩
   case measure=>simp[intOf];omega
  ·have hfin:=Lib.hid (ze7 s k (by omega))
   generalize hp:ofL (pre s k)=p at *
   have hp':=Lib.hid hp
   clear hp
   go_wp2
   go_ret
   exact ⟨kl (by rw[←hp'.out,←hfin.out,←UZ];rfl),hB⟩
def Bld (B:Nat) (l:Bs) (w:World):Prop:=Lib.BuilderAt 209 5 B B (.pointer (some ⟨B,0,none⟩)) (Lib.byteCells l) w
theorem Bld.alloc {B:Nat} {l:Bs} {w:World} (h:Bld B l w) (o:Obj):Bld B l (w.alloc o):=by
 obtain ⟨h1,v,h2,h3,h4⟩:=h
 refine ⟨h1,v,?_,h3.alloc o,h4⟩
 rw[Lib.alloc_old _ _ _ (Array.getElem?_eq_some_iff.1 h2).1];exact h2
theorem Bld.drew {B:Nat} {l:Bs} {w:World} (h:Bld B l w):Bld B l w.drew:=h
theorem MC (B:Nat) (l:Bs) (c:UInt8) (w:World) (h:Bld B l w) (hl:l.length<140737488355328) (hB:B<=w.heap.size) :
  Calls Tryz.prog 213 #[.pointer (some ⟨B,0,none⟩),.int .u8 (c.toNat:Int)] w fun e w'=>e = .returned .nilIface/\Bld B (l++[c]) w'/\Below B w w':=by
 refine (Tryz.zBuilder_WriteByte B B (Lib.byteCells l) c.toNat w (.inr h) (by rw[Lib.byteCells_length];omega) hB).mono ?_
 rintro e w' ⟨h1,h2,h3⟩
 exact ⟨h1,by rw[Bld,Lib.byteCells_append];exact h2,h3⟩
theorem uv (w:World) (c:UInt8) :
  Calls Tryz.prog 213 #[.pointer (some ⟨w.heap.size,0,none⟩),.int .u8 (c.toNat:Int)] (w.alloc (.cells #[.pointer none,.slice none 0 0] 209 (0,0))) fun e w'=>e = .returned .nilIface/\Bld w.heap.size [c] w'/\Below w.heap.size w w':=by
 refine (Tryz.zBuilder_WriteByte w.heap.size w.heap.size [] c.toNat _ (Lib.fresh_isBuilder _ _ w) (by decide) (by simp)).mono ?_
 rintro e w' ⟨h1,h2,h3⟩
 exact ⟨h1,h2,((Below.refl _ _).alloc (Nat.le_refl _) _).trans h3⟩
theorem xI (B:Nat) (l:Bs) (x:ByteArray) (w:World) (h:Bld B l w) (hl:l.length+x.size<=140737488355328) (hB:B<=w.heap.size) :
  Calls Tryz.prog 174 #[.pointer (some ⟨B,0,none⟩),.string x] w fun e w'=>e = .returned (.tuple #[.int .i64 x.size,.nilIface])/\Bld B (l++toL x) w'/\Below B w w':=by
 refine (Tryz.zBuilder_WriteString B B (Lib.byteCells l) x w (.inr h) (by rw[Lib.byteCells_length];omega) hB).mono ?_
 rintro e w' ⟨h1,h2,h3⟩
 exact ⟨h1,by rw[Bld,Lib.byteCells_append];exact h2,h3⟩
theorem zdG (B:Nat) (l:Bs) (w:World) (h:Bld B l w) (hB:B<=w.heap.size) :
  Calls Tryz.prog 175 #[.pointer (some ⟨B,0,none⟩)] w fun e w'=>e = .returned (.string (ofL l))/\Below B w w':=
 Tryz.Builder_String_any B B l w (.inr h) hB
theorem znf (c:UInt8):bits BinOp.and IntKind.u8 (c.toNat:Int) 15=(c.toNat:Int) % 16:=by
 have:=zeX (p:=fun c=>decide (bits BinOp.and IntKind.u8 (c.toNat:Int) 15=(c.toNat:Int) % 16)) (by decide +kernel) c
 exact of_decide_eq_true this
theorem quote_walk (s:ByteArray) (w:World) (hs:s.size<=1099511627776) :
  Calls Tryz.prog 171 #[.string s] w fun e w'=>e = .returned (.string (ofL (zN (toL s))))/\Below w.heap.size w w':=by
 go_enter Tryz.func171,Tryz.ntmps171
 go_wp2_with fail
 refine (uv w 34).mono ?_
 rintro e w1 ⟨rfl,hI1,hB1⟩
 go_wp2_with fail
 go_loopw [9] (fun i wr=>∃ k:Nat,k<=s.size/\i = .int .i64 k/\Bld w.heap.size (pre s k) wr/\Below w.heap.size w wr) (fun i _=>s.size-(intOf i).toNat)
 case atStart=>exact ⟨0,by omega,rfl,by rw[vN];exact hI1,hB1⟩
 case round =>
  obtain ⟨k,hk,rfl,hI,hB⟩:=hrel
  clear hI1 hB1
  have hpl:=zea s k
  by_cases hlt:k<s.size
  ·obtain ⟨c,hc⟩:∃ c,s[k]=c:=⟨_,rfl⟩
   have hsn:=Lib.hid (ue s k hlt hc)
   go_wp2_with fail
   refine (ye c _).mono ?_
   rintro e w' ⟨rfl,rfl⟩
   cases hg:good c with
   | true =>
    have hq:=Lib.hid (show qb c = [c] by rw[qb,if_pos hg])
    clear hg
    go_wp2_with fail
    refine (MC w.heap.size (pre s k) c _ hI (by omega) hB.size).mono ?_
    rintro e w2 ⟨rfl,hI2,hb2⟩
    go_wp2
    go_roundw
    case rel=>exact ⟨k+1,by omega,by go_num,by rw[hsn.out,hq.out];exact hI2,hB.trans hb2⟩
    case measure=>simp[intOf];omega
   | false =>
    have hq:=Lib.hid (show qb c = [92,120,Hn (c.toNat / 16),Hn (c.toNat % 16)] by rw[qb,hg];rfl)
    clear hg
    have x1:=zja c
    have x2:=zjs c
    have x3:=znf c
    have hcv:=fun w2:World=>Gq (P:=Tryz.prog) w2 [92,120,Hn (c.toNat / 16),Hn (c.toNat % 16)] 164 5 9 Tryz.underlying164 Tryz.underlying5 Tryz.underlying9 #[.int .u8 92,.int .u8 120,.int .u8 (Hn (c.toNat / 16)).toNat,.int .u8 (Hn (c.toNat % 16)).toNat] rfl (0,0) w2.heap.size 4 4 rfl rfl
    go_wp2_with fail
    go_still_tail 6,(by kernel_rfl)
    change wpList _ _ _ _ _ wr.drew
    obtain ⟨w2,hw2,hI2,hsz⟩:∃ w2:World,Below w.heap.size w w2/\Bld w.heap.size (pre s k) w2/\w2=wr.drew:=⟨_,hB.drew,hI.drew,rfl⟩
    rw[←hsz]
    clear hsz hI hB
    go_wp2_with fail
    refine (xI w.heap.size (pre s k) (ofL [92,120,Hn (c.toNat / 16),Hn (c.toNat % 16)]) _ (hI2.alloc _) (by rw[Qi];show _+4<=_;omega) (by have:=hw2.size;simp;omega)).mono ?_
    rintro e w3 ⟨rfl,hI3,hb3⟩
    rw[zft]at hI3
    have hB3:=(hw2.alloc hw2.size _).trans hb3
    clear hb3 hcv x1 x2 x3 hI2
    go_wp2
    go_roundw
    case rel=>exact ⟨k+1,by omega,by go_num,by rw[hsn.out,hq.out];exact hI3,hB3⟩
    case measure=>simp[intOf];omega
  ·have hfin:=Lib.hid (ze7 s k (by omega))
   go_wp2_with fail
   refine (MC w.heap.size (pre s k) 34 _ hI (by omega) hB.size).mono ?_
   rintro e w2 ⟨rfl,hI2,hb2⟩
   go_wp2_with fail
   refine (zdG w.heap.size _ _ hI2 (hB.trans hb2).size).mono ?_
   rintro e w3 ⟨rfl,hb3⟩
   go_wp2
   go_ret
   exact ⟨kl (by rw[hfin.out]),(hB.trans hb2).trans hb3⟩
end QuoteWalk
end Go.Proofs.YtaipngaejfndgaaGreatDoor
end
namespace Go.Proofs.YtaipngaejfndgaaGreatDoor.Vcg
section
open Go.RowKit
def phr:List (List UInt8):=[[],[99,97,110,110,111,116,32,99,114,101,97,116,101,32,100,105,114,101,99,116,111,114,121,32,65,58,32,69],[99,97,110,110,111,116,32,114,101,109,111,118,101,32,65,58,32,69],[114,101,102,117,115,105,110,103,32,116,111,32,114,101,109,111,118,101,32,34,46,34,32,111,114,32,34,46,46,34,32,100,105,114,101,99,116,111,114,121,58,32,115,107,105,112,112,105,110,103,32,65],[105,116,32,105,115,32,100,97,110,103,101,114,111,117,115,32,116,111,32,111,112,101,114,97,116,101,32,114,101,99,117,114,115,105,118,101,108,121,32,111,110,32,65],[102,97,105,108,101,100,32,116,111,32,97,99,99,101,115,115,32,65,58,32,69],[65,58,32,104,97,114,100,32,108,105,110,107,32,110,111,116,32,97,108,108,111,119,101,100,32,102,111,114,32,100,105,114,101,99,116,111,114,121],[102,97,105,108,101,100,32,116,111,32,99,114,101,97,116,101,32,104,97,114,100,32,108,105,110,107,32,66,58,32,69],[102,97,105,108,101,100,32,116,111,32,99,114,101,97,116,101,32,115,121,109,98,111,108,105,99,32,108,105,110,107,32,66,58,32,69],[65,32,97,110,100,32,66,32,97,114,101,32,116,104,101,32,115,97,109,101,32,102,105,108,101],[116,97,114,103,101,116,32,65,32,105,115,32,110,111,116,32,97,32,100,105,114,101,99,116,111,114,121],[99,97,110,110,111,116,32,115,116,97,116,32,65,58,32,69],[99,97,110,110,111,116,32,111,118,101,114,119,114,105,116,101,32,110,111,110,45,100,105,114,101,99,116,111,114,121,32,66,32,119,105,116,104,32,100,105,114,101,99,116,111,114,121,32,65],[99,97,110,110,111,116,32,111,118,101,114,119,114,105,116,101,32,100,105,114,101,99,116,111,114,121,32,66,32,119,105,116,104,32,110,111,110,45,100,105,114,101,99,116,111,114,121,32,65],[99,97,110,110,111,116,32,109,111,118,101,32,65,32,116,111,32,97,32,115,117,98,100,105,114,101,99,116,111,114,121,32,111,102,32,105,116,115,101,108,102,44,32,66],[99,97,110,110,111,116,32,109,111,118,101,32,65,32,116,111,32,66,58,32,69],[45,114,32,110,111,116,32,115,112,101,99,105,102,105,101,100,59,32,111,109,105,116,116,105,110,103,32,100,105,114,101,99,116,111,114,121,32,65],[99,97,110,110,111,116,32,99,114,101,97,116,101,32,114,101,103,117,108,97,114,32,102,105,108,101,32,66,58,32,69],[99,97,110,110,111,116,32,99,114,101,97,116,101,32,115,121,109,98,111,108,105,99,32,108,105,110,107,32,66,58,32,69],[99,97,110,110,111,116,32,99,111,112,121,32,97,32,100,105,114,101,99,116,111,114,121,44,32,65,44,32,105,110,116,111,32,105,116,115,101,108,102,44,32,66],[110,111,116,32,119,114,105,116,105,110,103,32,116,104,114,111,117,103,104,32,100,97,110,103,108,105,110,103,32,115,121,109,108,105,110,107,32,66],[101,114,114,111,114,32,119,114,105,116,105,110,103,32,66,58,32,69],[99,97,110,110,111,116,32,99,114,101,97,116,101,32,100,105,114,101,99,116,111,114,121,32,66,58,32,69]]
def zqV:List (List UInt8):=[[83,117,99,99,101,115,115],[78,111,32,115,117,99,104,32,102,105,108,101,32,111,114,32,100,105,114,101,99,116,111,114,121],[70,105,108,101,32,101,120,105,115,116,115],[78,111,116,32,97,32,100,105,114,101,99,116,111,114,121],[73,115,32,97,32,100,105,114,101,99,116,111,114,121],[68,105,114,101,99,116,111,114,121,32,110,111,116,32,101,109,112,116,121],[84,111,111,32,109,97,110,121,32,108,101,118,101,108,115,32,111,102,32,115,121,109,98,111,108,105,99,32,108,105,110,107,115],[70,105,108,101,32,110,97,109,101,32,116,111,111,32,108,111,110,103],[78,111,32,115,112,97,99,101,32,108,101,102,116,32,111,110,32,100,101,118,105,99,101],[73,110,118,97,108,105,100,32,97,114,103,117,109,101,110,116],[68,101,118,105,99,101,32,111,114,32,114,101,115,111,117,114,99,101,32,98,117,115,121],[79,112,101,114,97,116,105,111,110,32,110,111,116,32,112,101,114,109,105,116,116,101,100],[77,97,108,102,111,114,109,101,100,32,116,101,120,116],[78,111,116,32,105,110,32,116,104,101,32,115,116,97,115,104]]
def zod:List Value:=[.string ⟨#[]⟩,.string ⟨#[]⟩,.int .i64 0,.string ⟨#[109,107,100,105,114]⟩,.string ⟨#[112]⟩,.int .i64 1,.string ⟨#[114,109]⟩,.string ⟨#[82,100,102,114]⟩,.int .i64 1,.string ⟨#[108,110]⟩,.string ⟨#[84,102,110,115]⟩,.int .i64 1,.string ⟨#[109,118]⟩,.string ⟨#[84,102,110]⟩,.int .i64 2,.string ⟨#[99,112]⟩,.string ⟨#[80,82,84,102,110,114]⟩,.int .i64 2]
def G2:zk:=fun g=>if g=1 then some (phr.map C.str) else if g=0 then some (zod.map zt) else if g=4 then some (zqV.map C.str) else none
theorem zmy:G2 1=some [.str [],.str [99,97,110,110,111,116,32,99,114,101,97,116,101,32,100,105,114,101,99,116,111,114,121,32,65,58,32,69],.str [99,97,110,110,111,116,32,114,101,109,111,118,101,32,65,58,32,69],.str [114,101,102,117,115,105,110,103,32,116,111,32,114,101,109,111,118,101,32,34,46,34,32,111,114,32,34,46,46,34,32,100,105,114,101,99,116,111,114,121,58,32,115,107,105,112,112,105,110,103,32,65],.str [105,116,32,105,115,32,100,97,110,103,101,114,111,117,115,32,116,111,32,111,112,101,114,97,116,101,32,114,101,99,117,114,115,105,118,101,108,121,32,111,110,32,65],.str [102,97,105,108,101,100,32,116,111,32,97,99,99,101,115,115,32,65,58,32,69],.str [65,58,32,104,97,114,100,32,108,105,110,107,32,110,111,116,32,97,108,108,111,119,101,100,32,102,111,114,32,100,105,114,101,99,116,111,114,121],.str [102,97,105,108,101,100,32,116,111,32,99,114,101,97,116,101,32,104,97,114,100,32,108,105,110,107,32,66,58,32,69],.str [102,97,105,108,101,100,32,116,111,32,99,114,101,97,116,101,32,115,121,109,98,111,108,105,99,32,108,105,110,107,32,66,58,32,69],.str [65,32,97,110,100,32,66,32,97,114,101,32,116,104,101,32,115,97,109,101,32,102,105,108,101],.str [116,97,114,103,101,116,32,65,32,105,115,32,110,111,116,32,97,32,100,105,114,101,99,116,111,114,121],.str [99,97,110,110,111,116,32,115,116,97,116,32,65,58,32,69],.str [99,97,110,110,111,116,32,111,118,101,114,119,114,105,116,101,32,110,111,110,45,100,105,114,101,99,116,111,114,121,32,66,32,119,105,116,104,32,100,105,114,101,99,116,111,114,121,32,65],.str [99,97,110,110,111,116,32,111,118,101,114,119,114,105,116,101,32,100,105,114,101,99,116,111,114,121,32,66,32,119,105,116,104,32,110,111,110,45,100,105,114,101,99,116,111,114,121,32,65],.str [99,97,110,110,111,116,32,109,111,118,101,32,65,32,116,111,32,97,32,115,117,98,100,105,114,101,99,116,111,114,121,32,111,102,32,105,116,115,101,108,102,44,32,66],.str [99,97,110,110,111,116,32,109,111,118,101,32,65,32,116,111,32,66,58,32,69],.str [45,114,32,110,111,116,32,115,112,101,99,105,102,105,101,100,59,32,111,109,105,116,116,105,110,103,32,100,105,114,101,99,116,111,114,121,32,65],.str [99,97,110,110,111,116,32,99,114,101,97,116,101,32,114,101,103,117,108,97,114,32,102,105,108,101,32,66,58,32,69],.str [99,97,110,110,111,116,32,99,114,101,97,116,101,32,115,121,109,98,111,108,105,99,32,108,105,110,107,32,66,58,32,69],.str [99,97,110,110,111,116,32,99,111,112,121,32,97,32,100,105,114,101,99,116,111,114,121,44,32,65,44,32,105,110,116,111,32,105,116,115,101,108,102,44,32,66],.str [110,111,116,32,119,114,105,116,105,110,103,32,116,104,114,111,117,103,104,32,100,97,110,103,108,105,110,103,32,115,121,109,108,105,110,107,32,66],.str [101,114,114,111,114,32,119,114,105,116,105,110,103,32,66,58,32,69],.str [99,97,110,110,111,116,32,99,114,101,97,116,101,32,100,105,114,101,99,116,111,114,121,32,66,58,32,69]]:=rfl
theorem zgy:G2 0=some [.str [],.str [],.sc (.int .i64 0),.str [109,107,100,105,114],.str [112],.sc (.int .i64 1),.str [114,109],.str [82,100,102,114],.sc (.int .i64 1),.str [108,110],.str [84,102,110,115],.sc (.int .i64 1),.str [109,118],.str [84,102,110],.sc (.int .i64 2),.str [99,112],.str [80,82,84,102,110,114],.sc (.int .i64 2)]:=rfl
theorem zkk:G2 4=some [.str [83,117,99,99,101,115,115],.str [78,111,32,115,117,99,104,32,102,105,108,101,32,111,114,32,100,105,114,101,99,116,111,114,121],.str [70,105,108,101,32,101,120,105,115,116,115],.str [78,111,116,32,97,32,100,105,114,101,99,116,111,114,121],.str [73,115,32,97,32,100,105,114,101,99,116,111,114,121],.str [68,105,114,101,99,116,111,114,121,32,110,111,116,32,101,109,112,116,121],.str [84,111,111,32,109,97,110,121,32,108,101,118,101,108,115,32,111,102,32,115,121,109,98,111,108,105,99,32,108,105,110,107,115],.str [70,105,108,101,32,110,97,109,101,32,116,111,111,32,108,111,110,103],.str [78,111,32,115,112,97,99,101,32,108,101,102,116,32,111,110,32,100,101,118,105,99,101],.str [73,110,118,97,108,105,100,32,97,114,103,117,109,101,110,116],.str [68,101,118,105,99,101,32,111,114,32,114,101,115,111,117,114,99,101,32,98,117,115,121],.str [79,112,101,114,97,116,105,111,110,32,110,111,116,32,112,101,114,109,105,116,116,101,100],.str [77,97,108,102,111,114,109,101,100,32,116,101,120,116],.str [78,111,116,32,105,110,32,116,104,101,32,115,116,97,115,104]]:=rfl
attribute [push_cast] zmy zgy zkk
def jR (k:Int):List UInt8:=if k=1 then [109,107,100,105,114] else if k=2 then [114,109] else if k=3 then [108,110] else if k=4 then [109,118] else if k=5 then [99,112] else []
def zY (k:Int):List UInt8:=if k=1 then [99,97,110,110,111,116,32,99,114,101,97,116,101,32,100,105,114,101,99,116,111,114,121,32,65,58,32,69] else if k=2 then [99,97,110,110,111,116,32,114,101,109,111,118,101,32,65,58,32,69] else if k=3 then [114,101,102,117,115,105,110,103,32,116,111,32,114,101,109,111,118,101,32,34,46,34,32,111,114,32,34,46,46,34,32,100,105,114,101,99,116,111,114,121,58,32,115,107,105,112,112,105,110,103,32,65] else if k=4 then [105,116,32,105,115,32,100,97,110,103,101,114,111,117,115,32,116,111,32,111,112,101,114,97,116,101,32,114,101,99,117,114,115,105,118,101,108,121,32,111,110,32,65] else if k=5 then [102,97,105,108,101,100,32,116,111,32,97,99,99,101,115,115,32,65,58,32,69] else if k=6 then [65,58,32,104,97,114,100,32,108,105,110,107,32,110,111,116,32,97,108,108,111,119,101,100,32,102,111,114,32,100,105,114,101,99,116,111,114,121] else if k=7 then [102,97,105,108,101,100,32,116,111,32,99,114,101,97,116,101,32,104,97,114,100,32,108,105,110,107,32,66,58,32,69] else if k=8 then [102,97,105,108,101,100,32,116,111,32,99,114,101,97,116,101,32,115,121,109,98,111,108,105,99,32,108,105,110,107,32,66,58,32,69] else if k=9 then [65,32,97,110,100,32,66,32,97,114,101,32,116,104,101,32,115,97,109,101,32,102,105,108,101] else if k=10 then [116,97,114,103,101,116,32,65,32,105,115,32,110,111,116,32,97,32,100,105,114,101,99,116,111,114,121] else if k=11 then [99,97,110,110,111,116,32,115,116,97,116,32,65,58,32,69] else if k=12 then [99,97,110,110,111,116,32,111,118,101,114,119,114,105,116,101,32,110,111,110,45,100,105,114,101,99,116,111,114,121,32,66,32,119,105,116,104,32,100,105,114,101,99,116,111,114,121,32,65] else if k=13 then [99,97,110,110,111,116,32,111,118,101,114,119,114,105,116,101,32,100,105,114,101,99,116,111,114,121,32,66,32,119,105,116,104,32,110,111,110,45,100,105,114,101,99,116,111,114,121,32,65] else if k=14 then [99,97,110,110,111,116,32,109,111,118,101,32,65,32,116,111,32,97,32,115,117,98,100,105,114,101,99,116,111,114,121,32,111,102,32,105,116,115,101,108,102,44,32,66] else if k=15 then [99,97,110,110,111,116,32,109,111,118,101,32,65,32,116,111,32,66,58,32,69] else if k=16 then [45,114,32,110,111,116,32,115,112,101,99,105,102,105,101,100,59,32,111,109,105,116,116,105,110,103,32,100,105,114,101,99,116,111,114,121,32,65] else if k=17 then [99,97,110,110,111,116,32,99,114,101,97,116,101,32,114,101,103,117,108,97,114,32,102,105,108,101,32,66,58,32,69] else if k=18 then [99,97,110,110,111,116,32,99,114,101,97,116,101,32,115,121,109,98,111,108,105,99,32,108,105,110,107,32,66,58,32,69] else if k=19 then [99,97,110,110,111,116,32,99,111,112,121,32,97,32,100,105,114,101,99,116,111,114,121,44,32,65,44,32,105,110,116,111,32,105,116,115,101,108,102,44,32,66] else if k=20 then [110,111,116,32,119,114,105,116,105,110,103,32,116,104,114,111,117,103,104,32,100,97,110,103,108,105,110,103,32,115,121,109,108,105,110,107,32,66] else if k=21 then [101,114,114,111,114,32,119,114,105,116,105,110,103,32,66,58,32,69] else if k=22 then [99,97,110,110,111,116,32,99,114,101,97,116,101,32,100,105,114,101,99,116,111,114,121,32,66,58,32,69] else []
def Vm (k:Int):List UInt8:=if k=0 then [83,117,99,99,101,115,115] else if k=1 then [78,111,32,115,117,99,104,32,102,105,108,101,32,111,114,32,100,105,114,101,99,116,111,114,121] else if k=2 then [70,105,108,101,32,101,120,105,115,116,115] else if k=3 then [78,111,116,32,97,32,100,105,114,101,99,116,111,114,121] else if k=4 then [73,115,32,97,32,100,105,114,101,99,116,111,114,121] else if k=5 then [68,105,114,101,99,116,111,114,121,32,110,111,116,32,101,109,112,116,121] else if k=6 then [84,111,111,32,109,97,110,121,32,108,101,118,101,108,115,32,111,102,32,115,121,109,98,111,108,105,99,32,108,105,110,107,115] else if k=7 then [70,105,108,101,32,110,97,109,101,32,116,111,111,32,108,111,110,103] else if k=8 then [78,111,32,115,112,97,99,101,32,108,101,102,116,32,111,110,32,100,101,118,105,99,101] else if k=9 then [73,110,118,97,108,105,100,32,97,114,103,117,109,101,110,116] else if k=10 then [68,101,118,105,99,101,32,111,114,32,114,101,115,111,117,114,99,101,32,98,117,115,121] else if k=11 then [79,112,101,114,97,116,105,111,110,32,110,111,116,32,112,101,114,109,105,116,116,101,100] else if k=12 then [77,97,108,102,111,114,109,101,100,32,116,101,120,116] else if k=13 then [78,111,116,32,105,110,32,116,104,101,32,115,116,97,115,104] else [85,110,107,110,111,119,110,32,101,114,114,111,114]
theorem NM (k:Int):Fun Tryz.prog G2 125 [.sc (.int .i64 k)] (.str (jR k)) 0:=by
 by_cases h1:1<=k
 ·by_cases h2:k<=5
  ·have hc:k=1∨k=2∨k=3∨k=4∨k=5:=by omega
   clear h1 h2
   rcases hc with rfl | rfl | rfl | rfl | rfl
   all_goals
    refine fon Tryz.func125 ?_;dsimp only[Tryz.f125]
    push_cast -dsimp
    exact ⟨[],rfl,rfl,by simp only[jR];push_cast -dsimp [zb,za,CLe,ze]<;>rfl⟩
  ·have n1:¬k=1:=(by omega);have n2:¬k=2:=(by omega);have n3:¬k=3:=(by omega);have n4:¬k=4:=(by omega);have n5:¬k=5:=(by omega)
   have f1:¬k<1:=(by omega);have f2:6<=k:=(by omega);have f3:5<k:=(by omega)
   refine fon Tryz.func125 ?_;dsimp only[Tryz.f125]
   push_cast -dsimp [f1,f2,f3,n1,n2,n3,n4,n5]
   exact ⟨[],rfl,rfl,by push_cast -dsimp [zb,za,CLe,ze]<;>simp[jR,n1,n2,n3,n4,n5]⟩
 ·have n1:¬k=1:=(by omega);have n2:¬k=2:=(by omega);have n3:¬k=3:=(by omega);have n4:¬k=4:=(by omega);have n5:¬k=5:=(by omega)
  have f1:k<1:=by omega
  refine fon Tryz.func125 ?_;dsimp only[Tryz.f125]
  push_cast -dsimp [f1,n1,n2,n3,n4,n5]
  exact ⟨[],rfl,rfl,by push_cast -dsimp [zb,za,CLe,ze]<;>simp[jR,n1,n2,n3,n4,n5]⟩
theorem VR (k:Int):Fun Tryz.prog G0 32 [.sc (.int .i64 k)] (.str (jR k)) 0:=by
 by_cases h1:1<=k
 ·by_cases h2:k<=5
  ·have hc:k=1∨k=2∨k=3∨k=4∨k=5:=by omega
   clear h1 h2
   rcases hc with rfl | rfl | rfl | rfl | rfl
   all_goals
    refine fon Tryz.func32 ?_;dsimp only[Tryz.f32]
    push_cast -dsimp
    exact ⟨[],rfl,rfl,by simp only[jR];push_cast -dsimp [zb,za,CLe,ze]<;>rfl⟩
  ·have n1:¬k=1:=(by omega);have n2:¬k=2:=(by omega);have n3:¬k=3:=(by omega);have n4:¬k=4:=(by omega);have n5:¬k=5:=(by omega)
   have f1:¬k<1:=(by omega);have f2:6<=k:=(by omega);have f3:5<k:=(by omega)
   refine fon Tryz.func32 ?_;dsimp only[Tryz.f32]
   push_cast -dsimp [f1,f2,f3,n1,n2,n3,n4,n5]
   exact ⟨[],rfl,rfl,by push_cast -dsimp [zb,za,CLe,ze]<;>simp[jR,n1,n2,n3,n4,n5]⟩
 ·have n1:¬k=1:=(by omega);have n2:¬k=2:=(by omega);have n3:¬k=3:=(by omega);have n4:¬k=4:=(by omega);have n5:¬k=5:=(by omega)
  have f1:k<1:=by omega
  refine fon Tryz.func32 ?_;dsimp only[Tryz.f32]
  push_cast -dsimp [f1,n1,n2,n3,n4,n5]
  exact ⟨[],rfl,rfl,by push_cast -dsimp [zb,za,CLe,ze]<;>simp[jR,n1,n2,n3,n4,n5]⟩
theorem zar (k:Int):Fun Tryz.prog G2 126 [.sc (.int .i64 k)] (.str (zY k)) 0:=by
 by_cases h1:0<=k
 ·by_cases h2:k<=22
  ·have hc:k=0∨k=1∨k=2∨k=3∨k=4∨k=5∨k=6∨k=7∨k=8∨k=9∨k=10∨k=11∨k=12∨k=13∨k=14∨k=15∨k=16∨k=17∨k=18∨k=19∨k=20∨k=21∨k=22:=by omega
   clear h1 h2
   rcases hc with rfl | rfl | rfl | rfl | rfl | rfl | rfl | rfl | rfl | rfl | rfl | rfl | rfl | rfl | rfl | rfl | rfl | rfl | rfl | rfl | rfl | rfl | rfl
   all_goals
    refine fon Tryz.func126 ?_;dsimp only[Tryz.f126]
    push_cast -dsimp
    exact ⟨[],rfl,rfl,by simp only[zY];push_cast -dsimp [zb,za,CLe,ze]<;>rfl⟩
  ·have n1:¬k=1:=(by omega);have n2:¬k=2:=(by omega);have n3:¬k=3:=(by omega);have n4:¬k=4:=(by omega);have n5:¬k=5:=(by omega);have n6:¬k=6:=(by omega);have n7:¬k=7:=(by omega);have n8:¬k=8:=(by omega);have n9:¬k=9:=(by omega);have n10:¬k=10:=(by omega);have n11:¬k=11:=(by omega);have n12:¬k=12:=(by omega);have n13:¬k=13:=(by omega);have n14:¬k=14:=(by omega);have n15:¬k=15:=(by omega);have n16:¬k=16:=(by omega);have n17:¬k=17:=(by omega);have n18:¬k=18:=(by omega);have n19:¬k=19:=(by omega);have n20:¬k=20:=(by omega);have n21:¬k=21:=(by omega);have n22:¬k=22:=(by omega)
   have f1:¬k<0:=(by omega);have f2:23<=k:=(by omega);have f3:22<k:=(by omega)
   refine fon Tryz.func126 ?_;dsimp only[Tryz.f126]
   push_cast -dsimp [f1,f2,f3,n1,n2,n3,n4,n5,n6,n7,n8,n9,n10,n11,n12,n13,n14,n15,n16,n17,n18,n19,n20,n21,n22]
   exact ⟨[],rfl,rfl,by push_cast -dsimp [zb,za,CLe,ze]<;>simp[zY,n1,n2,n3,n4,n5,n6,n7,n8,n9,n10,n11,n12,n13,n14,n15,n16,n17,n18,n19,n20,n21,n22]⟩
 ·have n1:¬k=1:=(by omega);have n2:¬k=2:=(by omega);have n3:¬k=3:=(by omega);have n4:¬k=4:=(by omega);have n5:¬k=5:=(by omega);have n6:¬k=6:=(by omega);have n7:¬k=7:=(by omega);have n8:¬k=8:=(by omega);have n9:¬k=9:=(by omega);have n10:¬k=10:=(by omega);have n11:¬k=11:=(by omega);have n12:¬k=12:=(by omega);have n13:¬k=13:=(by omega);have n14:¬k=14:=(by omega);have n15:¬k=15:=(by omega);have n16:¬k=16:=(by omega);have n17:¬k=17:=(by omega);have n18:¬k=18:=(by omega);have n19:¬k=19:=(by omega);have n20:¬k=20:=(by omega);have n21:¬k=21:=(by omega);have n22:¬k=22:=(by omega)
  have f1:k<0:=by omega
  refine fon Tryz.func126 ?_;dsimp only[Tryz.f126]
  push_cast -dsimp [f1,n1,n2,n3,n4,n5,n6,n7,n8,n9,n10,n11,n12,n13,n14,n15,n16,n17,n18,n19,n20,n21,n22]
  exact ⟨[],rfl,rfl,by push_cast -dsimp [zb,za,CLe,ze]<;>simp[zY,n1,n2,n3,n4,n5,n6,n7,n8,n9,n10,n11,n12,n13,n14,n15,n16,n17,n18,n19,n20,n21,n22]⟩
theorem yw (k:Int):Fun Tryz.prog G2 172 [.sc (.int .i64 k)] (.str (Vm k)) 0:=by
 by_cases h1:0<=k
 ·by_cases h2:k<=13
  ·have hc:k=0∨k=1∨k=2∨k=3∨k=4∨k=5∨k=6∨k=7∨k=8∨k=9∨k=10∨k=11∨k=12∨k=13:=by omega
   clear h1 h2
   rcases hc with rfl | rfl | rfl | rfl | rfl | rfl | rfl | rfl | rfl | rfl | rfl | rfl | rfl | rfl
   all_goals
    refine fon Tryz.func172 ?_;dsimp only[Tryz.f172]
    push_cast -dsimp
    exact ⟨[],rfl,rfl,by simp only[Vm];push_cast -dsimp [zb,za,CLe,ze]<;>rfl⟩
  ·have n0:¬k=0:=(by omega);have n1:¬k=1:=(by omega);have n2:¬k=2:=(by omega);have n3:¬k=3:=(by omega);have n4:¬k=4:=(by omega);have n5:¬k=5:=(by omega);have n6:¬k=6:=(by omega);have n7:¬k=7:=(by omega);have n8:¬k=8:=(by omega);have n9:¬k=9:=(by omega);have n10:¬k=10:=(by omega);have n11:¬k=11:=(by omega);have n12:¬k=12:=(by omega);have n13:¬k=13:=(by omega)
   have f1:¬k<0:=(by omega);have f2:14<=k:=(by omega);have f3:13<k:=(by omega)
   refine fon Tryz.func172 ?_;dsimp only[Tryz.f172]
   push_cast -dsimp [f1,f2,f3,n0,n1,n2,n3,n4,n5,n6,n7,n8,n9,n10,n11,n12,n13]
   exact ⟨[],rfl,rfl,by push_cast -dsimp [zb,za,CLe,ze]<;>simp[Vm,n0,n1,n2,n3,n4,n5,n6,n7,n8,n9,n10,n11,n12,n13]⟩
 ·have n0:¬k=0:=(by omega);have n1:¬k=1:=(by omega);have n2:¬k=2:=(by omega);have n3:¬k=3:=(by omega);have n4:¬k=4:=(by omega);have n5:¬k=5:=(by omega);have n6:¬k=6:=(by omega);have n7:¬k=7:=(by omega);have n8:¬k=8:=(by omega);have n9:¬k=9:=(by omega);have n10:¬k=10:=(by omega);have n11:¬k=11:=(by omega);have n12:¬k=12:=(by omega);have n13:¬k=13:=(by omega)
  have f1:k<0:=by omega
  refine fon Tryz.func172 ?_;dsimp only[Tryz.f172]
  push_cast -dsimp [f1,n0,n1,n2,n3,n4,n5,n6,n7,n8,n9,n10,n11,n12,n13]
  exact ⟨[],rfl,rfl,by push_cast -dsimp [zb,za,CLe,ze]<;>simp[Vm,n0,n1,n2,n3,n4,n5,n6,n7,n8,n9,n10,n11,n12,n13]⟩
theorem NB (k:Int):Fun Tryz.prog G0 133 [.sc (.int .i64 k)] (.str (Vm k)) 0:=by
 by_cases h1:0<=k
 ·by_cases h2:k<=13
  ·have hc:k=0∨k=1∨k=2∨k=3∨k=4∨k=5∨k=6∨k=7∨k=8∨k=9∨k=10∨k=11∨k=12∨k=13:=by omega
   clear h1 h2
   rcases hc with rfl | rfl | rfl | rfl | rfl | rfl | rfl | rfl | rfl | rfl | rfl | rfl | rfl | rfl
   all_goals
    refine fon Tryz.func133 ?_;dsimp only[Tryz.f133]
    push_cast -dsimp
    exact ⟨[],rfl,rfl,by simp only[Vm];push_cast -dsimp [zb,za,CLe,ze]<;>rfl⟩
  ·have n0:¬k=0:=(by omega);have n1:¬k=1:=(by omega);have n2:¬k=2:=(by omega);have n3:¬k=3:=(by omega);have n4:¬k=4:=(by omega);have n5:¬k=5:=(by omega);have n6:¬k=6:=(by omega);have n7:¬k=7:=(by omega);have n8:¬k=8:=(by omega);have n9:¬k=9:=(by omega);have n10:¬k=10:=(by omega);have n11:¬k=11:=(by omega);have n12:¬k=12:=(by omega);have n13:¬k=13:=(by omega)
   have f1:¬k<0:=(by omega);have f2:14<=k:=(by omega);have f3:13<k:=(by omega)
   refine fon Tryz.func133 ?_;dsimp only[Tryz.f133]
   push_cast -dsimp [f1,f2,f3,n0,n1,n2,n3,n4,n5,n6,n7,n8,n9,n10,n11,n12,n13]
   exact ⟨[],rfl,rfl,by push_cast -dsimp [zb,za,CLe,ze]<;>simp[Vm,n0,n1,n2,n3,n4,n5,n6,n7,n8,n9,n10,n11,n12,n13]⟩
 ·have n0:¬k=0:=(by omega);have n1:¬k=1:=(by omega);have n2:¬k=2:=(by omega);have n3:¬k=3:=(by omega);have n4:¬k=4:=(by omega);have n5:¬k=5:=(by omega);have n6:¬k=6:=(by omega);have n7:¬k=7:=(by omega);have n8:¬k=8:=(by omega);have n9:¬k=9:=(by omega);have n10:¬k=10:=(by omega);have n11:¬k=11:=(by omega);have n12:¬k=12:=(by omega);have n13:¬k=13:=(by omega)
  have f1:k<0:=by omega
  refine fon Tryz.func133 ?_;dsimp only[Tryz.f133]
  push_cast -dsimp [f1,n0,n1,n2,n3,n4,n5,n6,n7,n8,n9,n10,n11,n12,n13]
  exact ⟨[],rfl,rfl,by push_cast -dsimp [zb,za,CLe,ze]<;>simp[Vm,n0,n1,n2,n3,n4,n5,n6,n7,n8,n9,n10,n11,n12,n13]⟩
open QuotePlain in
theorem Mw (l:List UInt8) (hl:l.length<=1000000):Fun Tryz.prog G0 171 [.str l] (.str (zN l)) 0:=by
 refine Fun.wrap (by kernel_rfl) fun R vs h=>?_
 obtain ⟨v1,us1,rfl,h1,h⟩:=zd.1 h
 rw[zh]at h
 subst h
 rw[zE]at h1
 subst h1
 refine (QuoteWalk.quote_walk ⟨l.toArray⟩ R.w (by simp[ByteArray.size];omega)).mono ?_
 rintro e w' ⟨rfl,hb⟩
 exact ⟨_,rfl,hb,fun R' _=>zE.2 (by simp[Kit.ofL,Kit.toL])⟩
open QuotePlain in
theorem Jo (l:List UInt8) (hl:l.length<=1000000):Fun Tryz.prog G0 67 [.str l] (.str (zN l)) 0:=by
 refine Fun.wrap (by kernel_rfl) fun R vs h=>?_
 obtain ⟨v1,us1,rfl,h1,h⟩:=zd.1 h
 rw[zh]at h
 subst h
 rw[zE]at h1
 subst h1
 refine (QuoteWalk.refQuote_walk ⟨l.toArray⟩ R.w (by simp[ByteArray.size];omega)).mono ?_
 rintro e w' ⟨rfl,hb⟩
 exact ⟨_,rfl,hb,fun R' _=>zE.2 (by simp[Kit.ofL,Kit.toL])⟩
end
section
open Go.RowKit
theorem Fun.res {P:Program} {G:zk} {f:FuncId} {args:List C} {r r':C} {n:Nat} (h:Fun P G f args r n) (e:r=r'):Fun P G f args r' n:=e▸h
theorem zaN.glob0 {P:Program} {G':zk} {f:FuncId} {args:List C} {bx bx':List (List C)} {q:Nat} {r:C} {n:Nat} (h:zaN P G0 f args bx q r bx' n):zaN P G' f args bx q r bx' n:=
 ⟨h.1,fun R L vs hg=>h.2 R L vs fun g cs e=>by cases e⟩
theorem Nx.glob0 {P:Program} {G':zk} {f:FuncId} {first cap:List C} {bx items:List (List C)} (h:Nx P G0 f first cap bx items):Nx P G' f first cap bx items:=
 ⟨h.1,fun l st J R L us vs hg=>h.2 l st J R L us vs fun g cs e=>by cases e⟩
def XT (c:UInt8):List UInt8->List (List UInt8)
 | []=>[[]]
 | b :: l=>if b=c then [] :: XT c l else match XT c l with
  | []=>[[b]]
  | x :: r=>(b :: x) :: r
theorem VV (c:UInt8):∀ l:List UInt8,Lib.indexByte l c<0->XT c l = [l]
 | [],_=>rfl
 | b :: l,h=>by
  unfold Lib.indexByte at h
  by_cases hb:b=c
  ·subst hb;simp at h
  ·have hb':(b==c)=false:=by simpa using hb
   rw[hb']at h
   simp only[Bool.false_eq_true,if_false]at h
   have hl:Lib.indexByte l c<0:=by
    split at h
    ·rename_i g;have:=beq_iff_eq.1 g;omega
    ·omega
   unfold XT
   rw[if_neg hb,VV c l hl]
theorem Uf (c:UInt8):∀ l:List UInt8,-1<=Lib.indexByte l c
 | []=>Int.le_refl _
 | b :: l=>by
  have:=Uf c l
  unfold Lib.indexByte
  split
  ·decide
  ·split
   ·decide
   ·omega
theorem NN (c:UInt8):∀ (l:List UInt8) (i:Nat),Lib.indexByte l c=(i:Int)->i<l.length/\XT c l=l.take i :: XT c (l.drop (i+1))
 | [],i,h=>by
  have h:(-1:Int)=(i:Int):=h
  omega
 | b :: l,i,h=>by
  unfold Lib.indexByte at h
  by_cases hb:b=c
  ·subst hb
   simp at h
   obtain rfl:i=0:=by omega
   refine ⟨by simp,?_⟩
   conv=>lhs;unfold XT
   simp
  ·have hb':(b==c)=false:=by simpa using hb
   rw[hb']at h
   simp only[Bool.false_eq_true,if_false]at h
   split at h
   ·omega
   ·rename_i g
    have g':Lib.indexByte l c≠-1:=by simpa using g
    have hg:=Uf c l
    obtain ⟨j,rfl⟩:∃ j,i=j+1:=⟨i-1,by omega⟩
    have hj:Lib.indexByte l c=(j:Int):=by omega
    obtain ⟨h1,h2⟩:=NN c l j hj
    refine ⟨by simp;omega,?_⟩
    conv=>lhs;unfold XT
    rw[if_neg hb,h2]
    simp
theorem VM (c:UInt8) (l:List UInt8):(XT c l).length<=l.length+1:=by
 induction l with
 | nil=>simp[XT]
 | cons b l ih =>
  unfold XT
  split
  ·simp;omega
  ·split
   ·simp
   ·rename_i x r h
    rw[h]at ih
    simp at ih ⊢;omega
theorem zbk (c:UInt8) (l:List UInt8):Fun Tryz.prog G0 177 [.str l,.str [c]] (.sc (.int .i64 (Lib.indexByte l c))) 0:=by
 refine Fun.wrap (by kernel_rfl) fun R vs h=>?_
 obtain ⟨v1,us1,rfl,h1,h⟩:=zd.1 h
 obtain ⟨v2,us2,rfl,h2,h⟩:=zd.1 h
 rw[zh]at h
 subst h
 rw[zE]at h1 h2
 subst h1 h2
 refine (Tryz.strings_Index_one ⟨l.toArray⟩ c R.w).mono ?_
 rintro e w' ⟨rfl,rfl⟩
 exact ⟨_,rfl,Below.refl _ _,fun R' _=>zj.2 (by simp)⟩
theorem GK (c:UInt8) (s:List UInt8) (hs:s.length<=1000000):Nx Tryz.prog G0 208 [] [.ptr 1 0,.ptr 0 0,.ptr 2 0] [[.str s],[.str [c]],[.sc (.int .i64 0)]] (zx (XT c s)):=by
 refine foI (fun _=>[]) Tryz.func208 ?_;dsimp only[Tryz.f208]
 intro l sf
 push_cast -dsimp
 refine loop (fun x:List UInt8×Nat=>⟨[(0,.sc (.func (.yield l) #[] #[])),(1,.ptr 1 0),(2,.ptr 0 0),(3,.ptr 2 0)],[[.str x.1],[.str [c]],[.sc (.int .i64 0)]],0,x.2⟩)
  (fun x=>x.1.length<=1000000/\(∃ done,XT c s=done++XT c x.1/\done.length=x.2)/\∀ j,j<x.2->sf j=false) (fun x=>x.1.length) (s,0) ⟨hs,⟨[],rfl,rfl⟩,fun j hj=>by omega⟩ ?_ ?_
 ·refine j8.mk [] rfl rfl (Nat.zero_le _) rfl ?_ ?_<;>push_cast -dsimp [zb,za,CLe,ze]<;>omega
 ·rintro ⟨r,k⟩ hx
  simp only at hx ⊢
  have hr:=hx.1
  have hsf:=hx.2.2
  obtain ⟨done,hd,hdl⟩:=hx.2.1
  clear hx
  push_cast -dsimp
  refine call (zbk c r) ?_
  push_cast -dsimp
  by_cases hi:Lib.indexByte r c<0
  ·push_cast -dsimp [hi]
   have hk:(zx (XT c s))[k]?=some [.str r]:=by
    rw[hd,VV c r hi];simp[←hdl]
   rw[hk]
   push_cast -dsimp
   refine ⟨by push_cast -dsimp [zb,za,CLe,ze],hsf,?_⟩
   cases hk2:sf k with
   | true=>exact .inr ⟨Nat.succ_pos k,hk2⟩
   | false =>
    refine .inl ⟨?_,fun j (hj:j<k+1)=>?_⟩
    ·rw[hd,VV c r hi];simp[hdl]
    ·rcases Nat.lt_or_ge j k with g | g
     ·exact hsf j g
     ·rw[show j=k by omega];exact hk2
  ·have hg:=Uf c r
   obtain ⟨i,hii⟩:∃ i:Nat,Lib.indexByte r c=(i:Int):=⟨(Lib.indexByte r c).toNat,by omega⟩
   obtain ⟨hir,hsp⟩:=NN c r i hii
   have hk:(zx (XT c s))[k]?=some [.str (r.take i)]:=by
    rw[hd,hsp];simp[←hdl]
   rw[hii]at hi ⊢
   push_cast -dsimp [hi]
   rw[hk]
   push_cast -dsimp
   refine ⟨by omega,by omega,by push_cast -dsimp [zb,za,CLe,ze],hsf,br (fun hk2=>?_) (fun hk2=>?_)⟩
   ·push_cast -dsimp
    exact .inr ⟨Nat.succ_pos k,hk2⟩
   ·push_cast -dsimp
    refine ⟨by omega,by omega,(r.drop (i+1),k+1),⟨by simp;omega,⟨done++[r.take i],by rw[hd,hsp];simp,by simp[hdl]⟩,fun j (hj:j<k+1)=>?_⟩,by simp;omega,j8.mk [] rfl rfl (Nat.zero_le _) rfl ?_ ?_⟩
    ·rcases Nat.lt_or_ge j k with g | g
     ·exact hsf j g
     ·rw[show j=k by omega];exact hk2
    ·push_cast -dsimp [zb,za,CLe,ze]
    ·push_cast -dsimp [zb,za,CLe,ze]
theorem Hi (c:UInt8) (s:List UInt8):zaN Tryz.prog G0 169 [.str s,.str [c],.sc (.int .i64 0)] [] 0 (.clo (.func 208) [] [.ptr 1 0,.ptr 0 0,.ptr 2 0]) [[.str s],[.str [c]],[.sc (.int .i64 0)]] 0:=by
 refine foB (fun _=>[]) Tryz.func169 ?_;dsimp only[Tryz.f169]
 push_cast -dsimp
 exact ⟨[],rfl,rfl,by push_cast -dsimp [zb,za,CLe,ze],by push_cast -dsimp [zb,za,CLe,ze]⟩
theorem kW (c:UInt8) (s:List UInt8):zaN Tryz.prog G0 127 [.str s,.str [c]] [] 0 (.clo (.func 208) [] [.ptr 1 0,.ptr 0 0,.ptr 2 0]) [[.str s],[.str [c]],[.sc (.int .i64 0)]] 0:=by
 refine foB (fun _=>[]) Tryz.func127 ?_;dsimp only[Tryz.f127]
 push_cast -dsimp
 refine zfR [] [] (Hi c s) rfl (by simp) (by simp) (fun i hi=>by cases hi) (by push_cast -dsimp) rfl ?_
 push_cast -dsimp
 exact ⟨[],rfl,rfl,by push_cast -dsimp [zb,za,CLe,ze],by push_cast -dsimp [zb,za,CLe,ze]⟩
end
section
open CA CB
open Go.RowKit QuotePlain
def YE (l:List UInt8):List UInt8:=Lib.trimRightS l [58,44]
theorem zdn (l:List UInt8):(YE l).length<=l.length:=by
 unfold YE Lib.trimRightS
 rw[List.length_reverse]
 have:=(List.dropWhile_sublist (([58,44]:List UInt8).contains ·) (l:=l.reverse)).length_le
 rw[List.length_reverse]at this
 exact this
theorem zhc (l:List UInt8) (h0:l≠[]) (hl:l.length<=1000000):Fun Tryz.prog G0 170 [.str l,.str [58,44]] (.str (YE l)) 0:=by
 refine Fun.wrap (by kernel_rfl) fun R vs h=>?_
 obtain ⟨v1,us1,rfl,h1,h⟩:=zd.1 h
 obtain ⟨v2,us2,rfl,h2,h⟩:=zd.1 h
 rw[zh]at h
 subst h
 rw[zE]at h1 h2
 subst h1 h2
 have hpos:=List.length_pos_iff.2 h0
 refine (Any.strings_TrimRight_set Tryz.lays162 kD (by kernel_rfl) ⟨l.toArray⟩ ⟨#[58,44]⟩ R.w (by decide) (by simpa [ByteArray.size] using hpos) (by simp[ByteArray.size];omega) (by decide) (fun j b hb=>?_)).mono ?_
 ·match j,hb with
  | 0,hb=>cases hb;decide
  | 1,hb=>cases hb;decide
  | j+2,hb=>simp at hb
 ·rintro e w' ⟨rfl,rfl⟩
  exact ⟨_,rfl,((Below.refl _ _).alloc (Nat.le_refl _) _).alloc (by simp) _,fun R' _=>zE.2 (by simp[YE])⟩
def X5 (w qa qb m:List UInt8):List UInt8:=
 if YE w = [65] then qa++w.drop (YE w).length else if YE w = [66] then qb++w.drop (YE w).length else if YE w = [69] then m++w.drop (YE w).length else w
theorem Jp (l:List UInt8):(zN l).length<=4*l.length+2:=by
 have:=QuoteWalk.mid_len l
 simp only[zN,List.length_cons,List.length_append,List.length_nil]
 omega
theorem HQ (e:Int):(Vm e).length<=100:=by
 have key:∀ (c:Prop) [Decidable c] (x y:List UInt8),x.length<=100->y.length<=100->(if c then x else y).length<=100:=fun c _ x y hx hy=>by
  by_cases h:c
  ·rw[if_pos h];exact hx
  ·rw[if_neg h];exact hy
 unfold Vm
 repeat' (first | decide | refine key _ _ _ (by decide) ?_)
theorem GY (w a b:List UInt8) (e:Int) (ha:a.length<=1000) (hb:b.length<=1000):(X5 w (zN a) (zN b) (Vm e)).length<=w.length+5000:=by
 have h1:=Jp a
 have h2:=Jp b
 have h3:=HQ e
 unfold X5
 repeat' split
 all_goals (try simp only[List.length_append,List.length_drop]);omega
theorem zhQ (w a b:List UInt8) (e:Int) (h0:w≠[]) (hw:w.length<=1000) (ha:a.length<=1000) (hb:b.length<=1000):Fun Tryz.prog G2 128 [.str w,.str a,.str b,.sc (.int .i64 e)] (.str (X5 w (zN a) (zN b) (Vm e))) 0:=by
 have h1:=(zhc w h0 (by omega)).glob0 (G':=G2)
 have h2:=(Mw a (by omega)).glob0 (G':=G2)
 have h3:=(Mw b (by omega)).glob0 (G':=G2)
 have h4:=yw e
 have hl:=zdn w
 have l1:=Jp a
 have l2:=Jp b
 have l3:=HQ e
 by_cases hA:YE w = [65]
 ·refine fon Tryz.func128 ?_;dsimp only[Tryz.f128]
  push_cast -dsimp
  refine cl (h1) ?_;push_cast -dsimp
  repeat refine an ?_
  push_cast -dsimp [hA]
  refine cl (h2) ?_;push_cast -dsimp
  repeat refine an ?_
  exact ⟨[],rfl,rfl,by push_cast -dsimp [zb,za,CLe,ze]<;>simp[X5,hA]⟩
 ·by_cases hB:YE w = [66]
  ·have hA':¬([66]:List UInt8) = [65]:=by decide
   refine fon Tryz.func128 ?_;dsimp only[Tryz.f128]
   push_cast -dsimp
   refine cl (h1) ?_;push_cast -dsimp
   repeat refine an ?_
   push_cast -dsimp [hB,hA']
   refine cl (h3) ?_;push_cast -dsimp
   repeat refine an ?_
   exact ⟨[],rfl,rfl,by push_cast -dsimp [zb,za,CLe,ze]<;>simp[X5,hB]⟩
  ·by_cases hE:YE w = [69]
   ·have hA':¬([69]:List UInt8) = [65]:=by decide
    have hB':¬([69]:List UInt8) = [66]:=by decide
    refine fon Tryz.func128 ?_;dsimp only[Tryz.f128]
    push_cast -dsimp
    refine cl (h1) ?_;push_cast -dsimp
    repeat refine an ?_
    push_cast -dsimp [hE,hA',hB']
    refine cl (h4) ?_;push_cast -dsimp
    repeat refine an ?_
    exact ⟨[],rfl,rfl,by push_cast -dsimp [zb,za,CLe,ze]<;>simp[X5,hE]⟩
   ·refine fon Tryz.func128 ?_;dsimp only[Tryz.f128]
    push_cast -dsimp
    refine cl (h1) ?_;push_cast -dsimp
    repeat refine an ?_
    push_cast -dsimp [hA,hB,hE]
    exact ⟨[],rfl,rfl,by push_cast -dsimp [zb,za,CLe,ze]<;>simp[X5,hA,hB,hE]⟩
theorem zgG (xs:List (List UInt8)) (hx:xs.length<=1000001) (hl:(Lib.join xs [58,32]).length<=100000000):Fun Tryz.prog G0 129 [.sl 1 (zx xs)] (.str (Lib.join xs [58,32])) 0:=by
 refine fon Tryz.func129 ?_;dsimp only[Tryz.f129]
 push_cast -dsimp
 refine cl (Vl xs [58,32] hx hl) ?_;push_cast -dsimp
 exact dn
end
section
open CA CB
open Go.RowKit QuotePlain
abbrev Atm:=Nat ⊕ UInt8
def zpD (w:List UInt8):List Atm:=
 if YE w = [65] then .inl 0 :: (w.drop (YE w).length).map .inr else if YE w = [66] then .inl 1 :: (w.drop (YE w).length).map .inr else if YE w = [69] then .inl 2 :: (w.drop (YE w).length).map .inr else w.map .inr
def vA (qa qb m:List UInt8):Atm->List UInt8
 | .inl 0=>qa
 | .inl 1=>qb
 | .inl _=>m
 | .inr b=>[b]
def flA (qa qb m:List UInt8):List Atm->List UInt8
 | []=>[]
 | [a]=>vA qa qb m a
 | a :: b :: r=>vA qa qb m a++flA qa qb m (b :: r)
theorem JW (qa qb m:List UInt8):∀ l:List Atm,flA qa qb m l=l.flatMap (vA qa qb m)
 | []=>rfl
 | [a]=>by simp[flA]
 | a :: b :: r=>by rw[flA,JW qa qb m (b :: r)];rfl
def Zj (k:Int):List Atm:=List.intercalate [.inr 32] ((XT 32 (zY k)).map zpD)
def zhD (k:Int) (qa qb m:List UInt8):List UInt8:=flA qa qb m (Zj k)
theorem zfP (qa qb m l:List UInt8):flA qa qb m (l.map .inr)=l:=by
 rw[JW]
 induction l with
 | nil=>rfl
 | cons b r ih=>exact congrArg (b :: ·) ih
theorem Gp (qa qb m:List UInt8) (a:Atm) (l:List Atm):flA qa qb m (a :: l)=vA qa qb m a++flA qa qb m l:=by rw[JW,JW];rfl
theorem zh2 (w qa qb m:List UInt8):X5 w qa qb m=flA qa qb m (zpD w):=by
 have h:=fun l=>zfP qa qb m l
 unfold X5 zpD
 split
 ·rw[Gp,h];rfl
 ·split
  ·rw[Gp,h];rfl
  ·split
   ·rw[Gp,h];rfl
   ·rw[h]
theorem zeq (qa qb m:List UInt8) (a b:List Atm):flA qa qb m (a++b)=flA qa qb m a++flA qa qb m b:=by rw[JW,JW,JW];exact List.flatMap_append
theorem vb (qa qb m:List UInt8):∀ ws:List (List Atm),flA qa qb m (List.intercalate [.inr 32] ws)=List.intercalate [32] (ws.map (flA qa qb m))
 | []=>rfl
 | [w]=>by simp[List.intercalate,List.intersperse]
 | w :: v :: r=>by
  have ih:=vb qa qb m (v :: r)
  have e1:List.intercalate [(.inr 32:Atm)] (w :: v :: r)=w++([.inr 32]++List.intercalate [.inr 32] (v :: r)):=by simp[List.intercalate,List.intersperse]
  have e2:List.intercalate [(32:UInt8)] ((w :: v :: r).map (flA qa qb m))=flA qa qb m w++([32]++List.intercalate [32] ((v :: r).map (flA qa qb m))):=by simp[List.intercalate,List.intersperse]
  rw[e1,e2,zeq,zeq,ih]
  rfl
theorem HE (k:Int) (qa qb m:List UInt8):Lib.join ((XT 32 (zY k)).map fun w=>X5 w qa qb m) [32]=zhD k qa qb m:=by
 unfold zhD Zj
 rw[vb,List.map_map]
 show List.intercalate [32] _=_
 congr 1
 exact List.map_congr_left fun w _=>zh2 w qa qb m
theorem Hs (k:Int) (qa qb m:List UInt8) (h:zY k = []):zhD k qa qb m = []:=by
 unfold zhD Zj
 rw[h]
 rfl
theorem Qb (k:Int) (h:¬(1<=k/\k<=22)):zY k = []:=by
 have n1:¬k=1:=by omega
 have n2:¬k=2:=by omega
 have n3:¬k=3:=by omega
 have n4:¬k=4:=by omega
 have n5:¬k=5:=by omega
 have n6:¬k=6:=by omega
 have n7:¬k=7:=by omega
 have n8:¬k=8:=by omega
 have n9:¬k=9:=by omega
 have n10:¬k=10:=by omega
 have n11:¬k=11:=by omega
 have n12:¬k=12:=by omega
 have n13:¬k=13:=by omega
 have n14:¬k=14:=by omega
 have n15:¬k=15:=by omega
 have n16:¬k=16:=by omega
 have n17:¬k=17:=by omega
 have n18:¬k=18:=by omega
 have n19:¬k=19:=by omega
 have n20:¬k=20:=by omega
 have n21:¬k=21:=by omega
 have n22:¬k=22:=by omega
 simp only[zY,n1,n2,n3,n4,n5,n6,n7,n8,n9,n10,n11,n12,n13,n14,n15,n16,n17,n18,n19,n20,n21,n22,if_false]
theorem ZJ (k:Int):zY k = []∨((∀ x∈XT 32 (zY k),x≠[]/\x.length<=100)/\(zY k).length<=100):=by
 by_cases h:1<=k/\k<=22
 ·refine .inr ?_
  have hc:k=1∨k=2∨k=3∨k=4∨k=5∨k=6∨k=7∨k=8∨k=9∨k=10∨k=11∨k=12∨k=13∨k=14∨k=15∨k=16∨k=17∨k=18∨k=19∨k=20∨k=21∨k=22:=by omega
  clear h
  rcases hc with rfl | rfl | rfl | rfl | rfl | rfl | rfl | rfl | rfl | rfl | rfl | rfl | rfl | rfl | rfl | rfl | rfl | rfl | rfl | rfl | rfl | rfl<;>exact ⟨by decide +kernel,by decide +kernel⟩
 ·exact .inl (Qb k h)
theorem VT (f:List UInt8->List UInt8) (n:Nat):∀ xs:List (List UInt8),(∀ x∈xs,(f x).length<=n)->((xs.map f).map fun x=>x.length+1).sum<=xs.length*(n+1)
 | [],_=>by simp
 | x :: r,h=>by
  have ih:=VT f n r fun y hy=>h y (List.mem_cons_of_mem _ hy)
  have:=h x List.mem_cons_self
  simp only[List.map_cons,List.sum_cons,List.length_cons,Nat.add_mul]
  omega
theorem kE (xs:List (List UInt8)) (sep:List UInt8) (n:Nat) (hs:sep.length<=1) (h:(xs.map fun x=>x.length+1).sum<=n):(Lib.join xs sep).length<=n:=by
 have key:∀ xs:List (List UInt8),(Lib.join xs sep).length<=(xs.map fun x=>x.length+1).sum:=by
  intro xs
  match xs with
  | []=>simp[Lib.join]
  | [x]=>simp[Lib.join_one]
  | x :: y :: r =>
   have ih:∀ (zs:List (List UInt8)) (z:List UInt8),(Lib.join (z :: zs) sep).length<=((z :: zs).map fun x=>x.length+1).sum:=by
    intro zs
    induction zs with
    | nil=>intro z;simp[Lib.join_one]
    | cons u t iht =>
     intro z
     rw[Yu]
     have:=iht u
     simp only[List.length_append,List.map_cons,List.sum_cons]at this ⊢
     omega
   exact ih (y :: r) x
 exact Nat.le_trans (key xs) h
def JD (k w:Int) (a b:List UInt8) (e:Int):List UInt8:=
 if jR k = [] then [] else if zY w = [] then [] else jR k++[58,32]++zhD w (zN a) (zN b) (Vm e)
theorem Ms (k:Int):(jR k).length<=10:=by
 have key:∀ (c:Prop) [Decidable c] (x y:List UInt8),x.length<=10->y.length<=10->(if c then x else y).length<=10:=fun c _ x y hx hy=>by
  by_cases h:c
  ·rw[if_pos h];exact hx
  ·rw[if_neg h];exact hy
 unfold jR
 repeat' (first | decide | refine key _ _ _ (by decide) ?_)
theorem ziC (k w:Int) (a b:List UInt8) (e:Int) (ha:a.length<=1000) (hb:b.length<=1000):Fun Tryz.prog G2 76 [.sc (.int .i64 k),.sc (.int .i64 w),.str a,.str b,.sc (.int .i64 e)] (.str (JD k w a b e)) 0:=by
 have h1:=NM k
 have h2:=zar w
 have hnl:=Ms k
 by_cases hn:jR k = []
 ·rw[hn]at h1
  refine fon Tryz.func76 ?_;dsimp only[Tryz.f76]
  push_cast -dsimp
  refine cl (h1) ?_;push_cast -dsimp
  refine cl (h2) ?_;push_cast -dsimp
  exact ⟨[],rfl,rfl,by push_cast -dsimp [zb,za,CLe,ze]<;>simp[JD,hn]⟩
 by_cases hp:zY w = []
 ·rw[hp]at h2
  refine fon Tryz.func76 ?_;dsimp only[Tryz.f76]
  push_cast -dsimp
  refine cl (h1) ?_;push_cast -dsimp
  refine cl (h2) ?_;push_cast -dsimp [hn]
  exact ⟨[],rfl,rfl,by push_cast -dsimp [zb,za,CLe,ze]<;>simp[JD,hn,hp]⟩
 obtain ⟨hws,hpl⟩:(∀ x∈XT 32 (zY w),x≠[]/\x.length<=100)/\(zY w).length<=100:=(ZJ w).resolve_left hp
 have hpw:=hp
 have hsay:=HE w (zN a) (zN b) (Vm e)
 have hsl:=VM 32 (zY w)
 have hsum:=VT (fun x=>X5 x (zN a) (zN b) (Vm e)) 5100 (XT 32 (zY w)) fun x hx=>by
  have:=GY x a b e ha hb
  have:=(hws x hx).2
  omega
 have hjl:=kE ((XT 32 (zY w)).map fun x=>X5 x (zN a) (zN b) (Vm e)) [32] 600000 (by decide) (by
  have:(XT 32 (zY w)).length*(5100+1)<=101*5101:=Nat.mul_le_mul_right _ (by omega)
  omega)
 have hit:=GK 32 (zY w) (by omega)
 generalize zY w=P at h2 hp hws hpl hsay hsl hsum hjl hit
 rw[hsay]at hjl
 refine fof (fun i=>if i=7 then [false,false,false,false,false,false,false,true,true] else []) Tryz.func76 ?_;dsimp only[Tryz.f76]
 push_cast -dsimp
 refine cl (h1) ?_;push_cast -dsimp
 refine cl (h2) ?_;push_cast -dsimp [hn,hp]
 refine zfR [] [] ((kW 32 P).glob0) rfl (by simp) (by simp) (fun i hi=>by cases hi) (by push_cast -dsimp) rfl ?_
 push_cast -dsimp
 refine range (zx (XT 32 P)) (fun _=>false) 4 (fun j=>⟨[],[[.str a],[.str b],[.sc (.int .i64 e)],[.own 0 9 1 (zx (((XT 32 P).take j).map fun x=>X5 x (zN a) (zN b) (Vm e)))]],1,0⟩) hit.glob0 (by push_cast -dsimp) (by push_cast -dsimp) (by push_cast -dsimp) (Nat.zero_le _) (by push_cast -dsimp) (fun it h=>?_) (fun j _=>rfl) ?_ (fun j it hj hsf=>?_) (fun hsf=>?_)
 ·obtain ⟨x,_,rfl⟩:=List.mem_map.1 h;rfl
 ·exact wks [.inr (9,1)]
 ·obtain ⟨x,hx,rfl⟩:=Va hj
  have hjl2:j<(XT 32 P).length:=(List.getElem?_eq_some_iff.1 hx).1
  have hxw:=hws x (List.mem_of_getElem? hx)
  have hs1:=zhQ x a b e hxw.1 (by omega) ha hb
  push_cast -dsimp
  refine cl (hs1) ?_;push_cast -dsimp
  repeat refine an ?_
  refine j8.mk [.inl 0] rfl rfl (Nat.le_refl _) rfl (by push_cast -dsimp [zb,za,CLe,ze]) ?_
  push_cast -dsimp [zb,za,CLe,ze]
  rw[List.take_add_one,hx]
  simp
 ·have htk:(XT 32 P).take (XT 32 P).length=XT 32 P:=List.take_length
  have j1:=((Vl ((XT 32 P).map fun x=>X5 x (zN a) (zN b) (Vm e)) [32] (by rw[List.length_map];omega) (by rw[hsay];omega)).res (congrArg C.str hsay)).glob0 (G':=G2)
  have j2:=((zgG [jR k,zhD w (zN a) (zN b) (Vm e)] (by simp) (by rw[Yu,Lib.join_one];simp only[List.length_append,List.length_cons,List.length_nil];omega)).res (congrArg C.str (show _=JD k w a b e by rw[Yu,Lib.join_one,JD,if_neg hn,if_neg hpw]))).glob0 (G':=G2)
  push_cast -dsimp [htk]
  refine cl (j1) ?_;push_cast -dsimp
  refine cl (j2) ?_;push_cast -dsimp
  exact dn
end
section
open CA CB
open Go.RowKit QuotePlain
theorem k22 {P:Int->Prop} (h:∀ n:Fin 22,P (n.val+1)) (k:Int) (hk:1<=k/\k<=22):P k:=by
 have:=h ⟨(k-1).toNat,by omega⟩
 rw[show ((k-1).toNat:Int)+1=k by omega]at this
 exact this
theorem zgA (k:Int) (qa qb m:List UInt8) (h:1<=k/\k<=22):zhD k qa qb m≠[]:=by
 have hA:((Zj k).any fun x=>x.isRight)=true:=k22 (P:=fun k=>((Zj k).any fun x=>x.isRight)=true) (by decide +kernel) k h
 intro e
 have e:flA qa qb m (Zj k) = []:=e
 rw[JW]at e
 obtain ⟨x,hx,hr⟩:=List.any_eq_true.1 hA
 have:=List.flatMap_eq_nil_iff.1 e x hx
 cases x with
 | inl n=>cases hr
 | inr b=>cases this
theorem zlS (k:Int) (a b:List UInt8) (e:Int) (ha:a.length<=1000) (hb:b.length<=1000):(zhD k (zN a) (zN b) (Vm e)).length<=600000:=by
 rw[←HE]
 rcases ZJ k with h | ⟨hws,hpl⟩
 ·rw[HE,Hs k _ _ _ h];exact Nat.zero_le _
 have hsl:=VM 32 (zY k)
 have hsum:=VT (fun x=>X5 x (zN a) (zN b) (Vm e)) 5100 (XT 32 (zY k)) fun x hx=>by
  have:=GY x a b e ha hb
  have:=(hws x hx).2
  omega
 exact kE _ [32] 600000 (by decide) (by
  have:(XT 32 (zY k)).length*(5100+1)<=101*5101:=Nat.mul_le_mul_right _ (by omega)
  omega)
theorem zfX (k:Int) (qa qb m:List UInt8) (ha:qa.length<=100000) (hb:qb.length<=100000) (hm:m.length<=100000):Fun Tryz.prog G0 132 [.sc (.int .i64 k),.str qa,.str qb,.str m] (.str (zhD k qa qb m)) 0:=by
 by_cases h:1<=k/\k<=22
 ·have hc:k=1∨k=2∨k=3∨k=4∨k=5∨k=6∨k=7∨k=8∨k=9∨k=10∨k=11∨k=12∨k=13∨k=14∨k=15∨k=16∨k=17∨k=18∨k=19∨k=20∨k=21∨k=22:=by omega
  clear h
  rcases hc with rfl | rfl | rfl | rfl | rfl | rfl | rfl | rfl | rfl | rfl | rfl | rfl | rfl | rfl | rfl | rfl | rfl | rfl | rfl | rfl | rfl | rfl
  all_goals
   refine fon Tryz.func132 ?_;dsimp only[Tryz.f132]
   push_cast -dsimp
   repeat refine an ?_
   exact ⟨[],rfl,rfl,by push_cast -dsimp [zb,za,CLe,ze];(try simp only[List.append_assoc]);kernel_rfl⟩
 ·have hn:=Hs k qa qb m (Qb k h)
  have n1:¬k=1:=by omega
  have n2:¬k=2:=by omega
  have n3:¬k=3:=by omega
  have n4:¬k=4:=by omega
  have n5:¬k=5:=by omega
  have n6:¬k=6:=by omega
  have n7:¬k=7:=by omega
  have n8:¬k=8:=by omega
  have n9:¬k=9:=by omega
  have n10:¬k=10:=by omega
  have n11:¬k=11:=by omega
  have n12:¬k=12:=by omega
  have n13:¬k=13:=by omega
  have n14:¬k=14:=by omega
  have n15:¬k=15:=by omega
  have n16:¬k=16:=by omega
  have n17:¬k=17:=by omega
  have n18:¬k=18:=by omega
  have n19:¬k=19:=by omega
  have n20:¬k=20:=by omega
  have n21:¬k=21:=by omega
  have n22:¬k=22:=by omega
  refine fon Tryz.func132 ?_;dsimp only[Tryz.f132]
  push_cast -dsimp [n1,n2,n3,n4,n5,n6,n7,n8,n9,n10,n11,n12,n13,n14,n15,n16,n17,n18,n19,n20,n21,n22]
  exact ⟨[],rfl,rfl,by push_cast -dsimp [zb,za,CLe,ze]<;>simp[hn]⟩
theorem zd8 (k w:Int) (a b:List UInt8) (e:Int) (ha:a.length<=1000) (hb:b.length<=1000):Fun Tryz.prog G0 81 [.sc (.int .i64 k),.sc (.int .i64 w),.str a,.str b,.sc (.int .i64 e)] (.str (JD k w a b e)) 0:=by
 have l1:=Jp a
 have l2:=Jp b
 have l3:=HQ e
 have l4:=zlS w a b e ha hb
 have l5:=Ms k
 have h1:=VR k
 have h2:=Jo a (by omega)
 have h3:=Jo b (by omega)
 have h4:=NB e
 have h5:=zfX w (zN a) (zN b) (Vm e) (by omega) (by omega) (by omega)
 by_cases hw:1<=w/\w<=22
 ·have hp:zY w≠[]:=k22 (P:=fun k=>zY k≠[]) (by decide +kernel) w hw
  have hs:=zgA w (zN a) (zN b) (Vm e) hw
  by_cases hn:jR k = []
  ·rw[hn]at h1
   refine fon Tryz.func81 ?_;dsimp only[Tryz.f81]
   push_cast -dsimp
   refine cl (h1) ?_;push_cast -dsimp
   refine cl (h2) ?_;push_cast -dsimp
   refine cl (h3) ?_;push_cast -dsimp
   refine cl (h4) ?_;push_cast -dsimp
   refine cl (h5) ?_;push_cast -dsimp
   exact ⟨[],rfl,rfl,by push_cast -dsimp [zb,za,CLe,ze]<;>simp[JD,hn]⟩
  ·refine fon Tryz.func81 ?_;dsimp only[Tryz.f81]
   push_cast -dsimp
   refine cl (h1) ?_;push_cast -dsimp
   refine cl (h2) ?_;push_cast -dsimp
   refine cl (h3) ?_;push_cast -dsimp
   refine cl (h4) ?_;push_cast -dsimp
   refine cl (h5) ?_;push_cast -dsimp [hn,hs]
   repeat refine an ?_
   exact ⟨[],rfl,rfl,by push_cast -dsimp [zb,za,CLe,ze]<;>simp[JD,hn,hp]⟩
 ·have hp:=Qb w hw
  have hs:=Hs w (zN a) (zN b) (Vm e) hp
  rw[hs]at h5
  by_cases hn:jR k = []
  ·rw[hn]at h1
   refine fon Tryz.func81 ?_;dsimp only[Tryz.f81]
   push_cast -dsimp
   refine cl (h1) ?_;push_cast -dsimp
   refine cl (h2) ?_;push_cast -dsimp
   refine cl (h3) ?_;push_cast -dsimp
   refine cl (h4) ?_;push_cast -dsimp
   refine cl (h5) ?_;push_cast -dsimp
   exact ⟨[],rfl,rfl,by push_cast -dsimp [zb,za,CLe,ze]<;>simp[JD,hn]⟩
  ·refine fon Tryz.func81 ?_;dsimp only[Tryz.f81]
   push_cast -dsimp
   refine cl (h1) ?_;push_cast -dsimp
   refine cl (h2) ?_;push_cast -dsimp
   refine cl (h3) ?_;push_cast -dsimp
   refine cl (h4) ?_;push_cast -dsimp
   refine cl (h5) ?_;push_cast -dsimp [hn]
   exact ⟨[],rfl,rfl,by push_cast -dsimp [zb,za,CLe,ze]<;>simp[JD,hn,hp]⟩
end
section
open CA CB
open Go.RowKit
def GD:zk:=fun g=>if g=2 then G1 g else G2 g
theorem zrA (g:Nat) (cs:List C) (h:G1 g=some cs):GD g=some cs:=by
 unfold GD
 by_cases hg:g=2
 ·rw[if_pos hg];exact h
 ·unfold G1 at h
  rw[if_neg hg]at h
  cases h
theorem zqW (g:Nat) (cs:List C) (h:G2 g=some cs):GD g=some cs:=by
 unfold GD
 by_cases hg:g=2
 ·subst hg
  have q:G2 2=none:=rfl
  rw[q]at h;cases h
 ·rw[if_neg hg];exact h
theorem Fun.gd1 {f:FuncId} {args:List C} {r:C} {n:Nat} (h:Fun Tryz.prog G1 f args r n):Fun Tryz.prog GD f args r n:=h.glob zrA
theorem Fun.gd2 {f:FuncId} {args:List C} {r:C} {n:Nat} (h:Fun Tryz.prog G2 f args r n):Fun Tryz.prog GD f args r n:=h.glob zqW
abbrev zqI (d:zr) (ops diags:C):C:=.agg [.sc (.int .i64 d.w.fs.maxI),.sc (.int .i64 d.w.fs.maxB),.sc (.int .i64 d.w.fs.next),.sl 6 (zF d.w.fs.xs),.sl 4 (YZ d.w.kept),.sl 6 (zF d.w.pool),ops,diags,.sc (.int .i64 d.status),.sc (.int .i64 d.slot)]
structure zjg (d:zr):Prop where
 wi:x8 d.w
 ws:znd d.w
 ops:d.ops.length<=80000
 diags:d.diags.length<=80000
 slot:0<=d.slot/\d.slot<=4000000000000000000
abbrev zcs:List C:=[.any,.any,.any,.any,.any]
abbrev ZC:List C:=[.any,.any,.any,.any,.any,.any,.any,.any,.any,.any]
def J9 (d:zr) (x:List UInt8):zr:={ d with diags:=d.diags++[x],status:=1 }
theorem zlt (d:zr) (hd:d.diags.length<=80000) (k w:Int) (a b:List UInt8) (e:Int) (ha:a.length<=1000) (hb:b.length<=1000) :
  Y1 Tryz.prog GD 36 [Ur d,.sc (.int .i64 k),.sc (.int .i64 w),.str a,.str b,.sc (.int .i64 e)] [] 0 (fun r bx n=>n=0/\∃ c B,zo7 1 c (zx (J9 d (JD k w a b e)).diags) B/\r=zqI (J9 d (JD k w a b e)) (.sl 5 (d.ops.map opL)) (.bs 2 0 1 (d.diags.length+1) c)/\bx = [ZC,ZC,B]):=by
 have ht:=(ziC k w a b e ha hb).gd2
 generalize JD k w a b e=x at ht ⊢
 have hsl:(zx d.diags).length=d.diags.length:=List.length_map ..
 have hc:=Nr (G:=GD) (zx d.diags) [[.str x]] (fun r hr=>by obtain ⟨x,_,rfl⟩:=List.mem_map.1 hr;rfl) (fun r hr=>by rw[List.mem_singleton.1 hr];rfl) (fun r hr=>by obtain ⟨x,_,rfl⟩:=List.mem_map.1 hr;rfl) (fun r hr=>by rw[List.mem_singleton.1 hr];rfl) (by omega) (by simp) (by simp)
 refine foX (fun i=>if i=1 then [false,false,false,false,false,false,false,false,false,false,false,true,false,false,true] else []) Tryz.func36 ?_;dsimp only[Tryz.f36]
 push_cast -dsimp
 refine cl (ht) ?_;push_cast -dsimp
 refine YF [] [] hc rfl (by decide) (by decide) (by simp) (by push_cast -dsimp) (by push_cast -dsimp) (fun r bx' m hp=>?_)
 obtain ⟨rfl,c,B,hB,rfl,rfl⟩:=hp
 have hre:∀ fp fo,C.reL fp fo B=B:=fun fp fo=>qC hB.stay
 push_cast -dsimp [hre]
 have hm:zx (J9 d x).diags=zx d.diags++[[.str x]]:=List.map_append
 exact ⟨_,[ZC,ZC,B],0,⟨⟨rfl,c,B,by rw[hm];exact hB,rfl,rfl⟩,Nat.zero_le _⟩,[],rfl,rfl,by (push_cast -dsimp [zb,za,CLe,ze];exact z6 hB.stay),by push_cast -dsimp [zb,za,CLe,ze,J9,List.length_append,hsl]⟩
theorem zfn (d:zr) (hd:d.diags.length<=80000) (k w:Int) (a b:List UInt8) (e:Int) (ha:a.length<=1000) (hb:b.length<=1000) :
  Fun Tryz.prog GD 36 [Ur d,.sc (.int .i64 k),.sc (.int .i64 w),.str a,.str b,.sc (.int .i64 e)] (zqI (J9 d (JD k w a b e)) (.sl 5 (d.ops.map opL)) (.own 0 9 1 (zx (J9 d (JD k w a b e)).diags))) 1:=
 (zlt d hd k w a b e ha hb).fun (by
  rintro r bx m ⟨rfl,c,B,hB,rfl,rfl⟩
  exact ⟨[(2,9,1,zx (J9 d (JD k w a b e)).diags,c)],[.inl 0],hB.ok rfl (by simp[J9]) (fun r hr=>by obtain ⟨x,_,rfl⟩:=List.mem_map.1 hr;rfl),rfl,rfl,by push_cast -dsimp [zb,za,CLe,ze,List.length_map,List.length_append,J9]⟩)
end
section
open CA CB
open Go.RowKit
end
section
open Go.RowKit
theorem zcg (a b:List OpV) (ha:a.length<=100000):Fun Tryz.prog G0 26 [.sl 5 (zfE a),.sl 5 (zfE b)] (qe (JA a b)) 0:=by
 by_cases hl:a.length=b.length
 ·refine fon Tryz.func26 ?_;dsimp only[Tryz.f26]
  push_cast -dsimp [hl]
  refine loop (fun k:Nat=>⟨[(0,.sl 5 (zfE a)),(1,.sl 5 (zfE b)),(5,.sc (.int .i64 k))],[],0,0⟩) (fun k=>k<=a.length/\∀ (j:Nat) (h:j<a.length) (h':j<b.length),j<k->zkB (a[j]'h) (b[j]'h')=true) (fun k=>a.length-k) 0 ⟨Nat.zero_le _,fun j _ _ hj=>by omega⟩ ?_ ?_
  ·exact wk (by push_cast -dsimp [zb,za,CLe,ze,hl])
  ·intro k hk
   have hk1:=hk.1
   have hk2:=hk.2
   by_cases h:k<a.length
   ·have hga:=zdP a k h
    have hgb:=zdP b k (by omega)
    have heq:zkB (a[k]'h) (b[k]'(by omega))=zkB (a[k]'h) (b[k]'(by omega)):=rfl
    simp only[opL]at hga hgb
    conv at heq=>lhs;unfold zkB
    cases he:zkB (a[k]'h) (b[k]'(by omega)) with
    | true =>
     rw[he]at heq
     push_cast -dsimp [h,hga,hgb,heq]
     repeat refine an ?_
     refine ⟨k+1,⟨by omega,fun j hj hj' hjk=>?_⟩,by omega,wk⟩
     rcases Nat.lt_or_ge j k with g | g
     ·exact hk2 j hj hj' g
     ·have:j=k:=by omega
      subst this;exact he
    | false =>
     rw[he]at heq
     push_cast -dsimp [h,hga,hgb,heq]
     repeat refine an ?_
     refine ⟨[],rfl,rfl,?_⟩
     push_cast -dsimp [zb,za,CLe,ze]
     have:¬JA a b=true:=fun e=>by
      have:=((YL a b).1 e).2 k h (by omega)
      rw[he]at this;cases this
     simp[this]
   ·push_cast -dsimp [h]
    refine ⟨[],rfl,rfl,?_⟩
    push_cast -dsimp [zb,za,CLe,ze]
    have:JA a b=true:=(YL a b).2 ⟨hl,fun j hj hj'=>hk2 j hj hj' (by omega)⟩
    simp[this]
 ·refine fon Tryz.func26 ?_;dsimp only[Tryz.f26]
  push_cast -dsimp [hl]
  refine ⟨[],rfl,rfl,?_⟩
  push_cast -dsimp [zb,za,CLe,ze]
  have:¬JA a b=true:=fun e=>hl ((YL a b).1 e).1
  simp[this]
end
section
open CA CB
open Go.RowKit
theorem GX (w:qd) (hk:w.kept.length<=100000) (hs:Xb w.kept):Fun Tryz.prog G0 12 [N0 w] (Ur (yh w)) 0:=by
 have h:=Vz (G:=G0) w hk hs.1 hs.2
 refine fof (fun i=>if i=1 then [false,false,false,false,true] else []) Tryz.func12 ?_;dsimp only[Tryz.f12]
 push_cast -dsimp
 refine cl (h) ?_;push_cast -dsimp
 exact dn (by push_cast -dsimp [zb,za,CLe,ze,yh])
end
section
open Go.RowKit
structure zrN where
 path:List UInt8
 ino:Int
deriving DecidableEq,Inhabited
def Ua (p n:List UInt8):List UInt8:=if p = [47] then p++n else p++[47]++n
theorem zen (p n:List UInt8):(Ua p n).length<=p.length+1+n.length:=by
 unfold Ua
 split<;>simp<;>omega
section
variable {G:zk}
end
end
section
open CA CB
open Go.RowKit
def zmd (xs:List zn):Prop:=xs.length<=3240/\∀ x∈xs,x.data.length<=5000/\x.es.length<=3240/\∀ e∈x.es,e.name.length<=300
abbrev Jb:=List (List (List UInt8)×zn)
structure uc (f:FsV) (tr:Int->List (List UInt8)->Jb):Prop where
 has:∀ n ns,zw n f.xs=true->tr n ns=(ns,zf n f.xs) :: (zf n f.xs).es.flatMap fun e=>tr e.ino (ns++[e.name])
 not:∀ n ns,zw n f.xs=false->tr n ns = []
abbrev VQ (p:List (List UInt8)×zn):List C:=[.str (qr p.1),.agg (JJ p.2)]
def zax (tr:Int->List (List UInt8)->Jb) (ns:List (List UInt8)) (es:List zK):Jb:=es.flatMap fun e=>tr e.ino (ns++[e.name])
def Xi (tr:Int->List (List UInt8)->Jb) (S:List (List (List UInt8)×List zK)):Jb:=S.flatMap fun p=>zax tr p.1 p.2
abbrev lvC (p:List (List UInt8)×List zK):List C:=[.sl 1 (zx p.1),.sl 2 (zG p.2)]
def UP (S:List (List (List UInt8)×List zK)):List C:=(S.reverse.map lvC).flatten
theorem zlz (S:List (List (List UInt8)×List zK)):(UP S).length=S.length*2:=by
 unfold UP
 rw[zB (k:=2) fun r hr=>by obtain ⟨p,_,rfl⟩:=List.mem_map.1 hr;rfl]
 simp
theorem yM (p:List (List UInt8)×List zK) (S:List (List (List UInt8)×List zK)):UP (p :: S)=UP S++lvC p:=by
 unfold UP;simp
def Zm (p:List (List UInt8)×zn):Prop:=p.1.length<=1000000/\(Lib.join p.1 [47]).length<=1000000
structure J1 (f:FsV) (tr:Int->List (List UInt8)->Jb) (IT:List (List C)) (sf:Nat->Bool) (S:List (List (List UInt8)×List zK)) (k cap:Nat):Prop where
 rest:IT.drop k=(Xi tr S).map VQ
 bound:∀ p∈Xi tr S,Zm p
 le:k<=IT.length
 go:∀ j,j<k->sf j=false
 pos:S.length<=k
 room:S.length<=cap
 roomM:cap<=9223372036854775807
 has:∀ p∈S,p.2.length<=3240/\∀ e∈p.2,zw e.ino f.xs=true
theorem Ql (S:List (List (List UInt8)×List zK)):((UP S).all C.stayB)=true:=Yv fun r hr=>by
 obtain ⟨p,_,rfl⟩:=List.mem_map.1 hr;rfl
theorem J1.pop {f:FsV} {tr:Int->List (List UInt8)->Jb} {IT:List (List C)} {sf:Nat->Bool} {S:List (List (List UInt8)×List zK)} {ns:List (List UInt8)} {k cap:Nat} (h:J1 f tr IT sf ((ns,[]) :: S) k cap):J1 f tr IT sf S k cap:=by
 have e:Xi tr ((ns,[]) :: S)=Xi tr S:=by simp[Xi,zax]
 exact ⟨by rw[←e];exact h.rest,fun p hp=>h.bound p (by rw[e];exact hp),h.le,h.go,by have:=h.pos;rw[List.length_cons]at this;omega,by have:=h.room;rw[List.length_cons]at this;omega,h.roomM,fun p hp=>h.has p (List.mem_cons_of_mem _ hp)⟩
theorem J1.next {f:FsV} {tr:Int->List (List UInt8)->Jb} {IT:List (List C)} {sf:Nat->Bool} {S:List (List (List UInt8)×List zK)} {ns:List (List UInt8)} {e:zK} {r:List zK} {k cap:Nat} (h:J1 f tr IT sf ((ns,e :: r) :: S) k cap) (ht:uc f tr) (hf:zmd f.xs) (h3:JR f) :
  ∃ y,y=zf e.ino f.xs/\y∈f.xs/\IT[k]?=some (VQ (ns++[e.name],y))/\Zm (ns++[e.name],y)/\(sf k=false->(∀ c,S.length+2<=c->c<=9223372036854775807->J1 f tr IT sf ((ns++[e.name],y.es) :: (ns,r) :: S) (k+1) c)/\(y.es = []->J1 f tr IT sf ((ns,r) :: S) (k+1) cap)):=by
 have hh:zw e.ino f.xs=true:=(h.has (ns,e :: r) List.mem_cons_self).2 e List.mem_cons_self
 obtain ⟨hm,hi⟩:=qM hh
 have hu:=ht.has e.ino (ns++[e.name]) hh
 have hrest:Xi tr ((ns,e :: r) :: S)=(ns++[e.name],zf e.ino f.xs) :: Xi tr ((ns++[e.name],(zf e.ino f.xs).es) :: (ns,r) :: S):=by
  simp only[Xi,zax,List.flatMap_cons,hu,List.cons_append,List.append_assoc]
 refine ⟨_,rfl,hm,?_,h.bound _ (by rw[hrest];exact List.mem_cons_self),fun hs=>?_⟩
 ·have:=h.rest
  rw[hrest]at this
  have:=congrArg (·[0]?) this
  simpa using this
 ·have hd:IT.drop (k+1)=(Xi tr ((ns++[e.name],(zf e.ino f.xs).es) :: (ns,r) :: S)).map VQ:=by
   rw[←List.drop_drop,h.rest,hrest];rfl
  have hb:∀ p∈Xi tr ((ns++[e.name],(zf e.ino f.xs).es) :: (ns,r) :: S),Zm p:=fun p hp=>h.bound p (by rw[hrest];exact List.mem_cons_of_mem _ hp)
  have hkl:k+1<=IT.length:=by
   rcases Nat.lt_or_ge k IT.length with g | g
   ·exact g
   ·have:=h.rest
    rw[List.drop_eq_nil_of_le g,hrest]at this;cases this
  have hgo:∀ j,j<k+1->sf j=false:=fun j hj=>by
   rcases Nat.lt_or_ge j k with g | g
   ·exact h.go j g
   ·rw[show j=k by omega];exact hs
  have hp:=h.pos
  have hro:=h.room
  have hrm:=h.roomM
  rw[List.length_cons]at hp hro
  have h0:=h.has (ns,e :: r) List.mem_cons_self
  have hr0:r.length<=3240/\∀ e'∈r,zw e'.ino f.xs=true:=⟨by have:=h0.1;simp at this;omega,fun e' he=>h0.2 e' (List.mem_cons_of_mem _ he)⟩
  refine ⟨fun c h1 h2=>⟨hd,hb,hkl,hgo,by simp;omega,by simp;omega,h2,fun p hp=>?_⟩,fun hne=>?_⟩
  ·rcases List.mem_cons.1 hp with rfl | hp
   ·exact ⟨(hf.2 _ hm).2.1,fun e' he=>h3 _ hm e' he⟩
   ·rcases List.mem_cons.1 hp with rfl | hp
    ·exact hr0
    ·exact h.has p (List.mem_cons_of_mem _ hp)
  ·have hz:Xi tr ((ns++[e.name],(zf e.ino f.xs).es) :: (ns,r) :: S)=Xi tr ((ns,r) :: S):=by rw[hne];simp[Xi,zax]
   rw[hz]at hd hb
   exact ⟨hd,hb,hkl,hgo,by simp;omega,by simp;omega,hrm,fun p hp=>by
    rcases List.mem_cons.1 hp with rfl | hp
    ·exact hr0
    ·exact h.has p (List.mem_cons_of_mem _ hp)⟩
theorem za0 (f:FsV) (ino:Int) (ns:List (List UInt8)) (tr:Int->List (List UInt8)->Jb) (ht:uc f tr) (hf:zmd f.xs) (hR:z8 f.xs) (h3:JR f) (h2:∀ x∈f.xs,x.kind≠2->x.es = []) (hl:(tr ino ns).length<=100000000) (hb:∀ p∈tr ino ns,Zm p) :
  Nx Tryz.prog G0 222 [] [.row (fsC f),.row [.sc (.int .i64 ino)],.row [.sl 1 (zx ns)]] [] ((tr ino ns).map VQ):=by
 have h40:=hf.1
 refine foI (fun i=>if i=1000000+252 then [true] else if i=1 then [false,false,false,false,false,false,false,true] else if i=10 then [false,false,false,false,true] else []) Tryz.func222 ?_;dsimp only[Tryz.f222]
 intro l sf
 push_cast -dsimp
 refine cl (YR f ino (by omega) hR) ?_;push_cast -dsimp
 cases hh:zw ino f.xs with
 | false =>
  have hn:=ht.not ino ns hh
  push_cast -dsimp
  rw[hn]
  exact .inl ⟨rfl,fun j hj=>absurd hj (Nat.not_lt_zero _)⟩
 | true =>
  have hn:=ht.has ino ns hh
  have q:Zm (ns,zf ino f.xs):=hb _ (by rw[hn];exact List.mem_cons_self)
  have h0:((tr ino ns).map VQ)[0]?=some (VQ (ns,zf ino f.xs)):=by rw[hn];rfl
  obtain ⟨hm,hino⟩:=qM hh
  generalize zf ino f.xs=x at hn h0 hm hino
  have hITl:((tr ino ns).map VQ).length<=100000000:=by rw[List.length_map];exact hl
  generalize hIT:(tr ino ns).map VQ=IT at h0 hITl
  push_cast -dsimp
  refine cl (Xt ns (by have:=q.1;dsimp only at this;omega) (by have:=q.2;dsimp only at this;omega)) ?_;push_cast -dsimp [h0]
  refine ⟨by push_cast -dsimp [zb,za,CLe,ze],fun j hj=>absurd hj (Nat.not_lt_zero _),br (fun hs=>?_) (fun hs=>?_)⟩
  ·push_cast -dsimp
   exact .inr ⟨Nat.succ_pos _,hs⟩
  ·push_cast -dsimp
   refine loop (fun p:List (List (List UInt8)×List zK)×Nat×Nat=>⟨[(0,.sc (.func (.yield l) #[] #[])),(1,.row (fsC f)),(7,.bs 1 0 2 p.1.length p.2.2)],[[.any,.any,.any,.any,.any,.any],UP p.1++List.replicate ((p.2.2-p.1.length)*2) .any],0,p.2.1⟩) (fun p=>J1 f tr IT sf p.1 p.2.1 p.2.2) (fun p=>2*(IT.length-p.2.1)+p.1.length) ([(ns,x.es)],1,1) ?_ ?_ ?_
   ·have hdr:IT.drop 1=(Xi tr [(ns,x.es)]).map VQ:=by
     rw[←hIT,hn]
     simp[Xi,zax]
    show J1 f tr IT sf [(ns,x.es)] 1 1
    exact ⟨hdr,fun p hp=>hb p (by rw[hn];exact List.mem_cons_of_mem _ (by simpa [Xi,zax] using hp)),by have:=(List.getElem?_eq_some_iff.1 h0).1;omega,fun j hj=>by rw[show j=0 by omega];exact hs,Nat.le_refl _,Nat.le_refl _,by omega,fun p hp=>by
     rw[List.mem_singleton]at hp;subst hp
     exact ⟨(hf.2 x hm).2.1,fun e he=>h3 x hm e he⟩⟩
   ·have hl1:UP [(ns,x.es)] = [.sl 1 (zx ns),.sl 2 (zG x.es)]:=rfl
    exact wk (h5:=by push_cast -dsimp [zb,za,CLe,ze,hl1])
   ·rintro ⟨S,k,cap⟩ hS
    dsimp only at hS ⊢
    cases S with
    | nil =>
     push_cast -dsimp
     have hr:=hS.rest
     have he:IT.length<=k:=by
      rcases Nat.lt_or_ge k IT.length with g | g
      ·have:=congrArg List.length hr
       simp[Xi]at this;omega
      ·exact g
     exact .inl ⟨by have:=hS.le;omega,hS.go⟩
    | cons p S' =>
     obtain ⟨ns1,es1⟩:=p
     have hL:=zlz S'
     have hd0:∀ X,(UP S'++X).drop (S'.length*2)=X:=fun X=>List.drop_left' hL
     have hd1:∀ X,(UP S'++X).drop (S'.length*2+1)=X.drop 1:=fun X=>by rw[←List.drop_drop,hd0]
     have hd2:∀ X,(UP S'++X).drop (S'.length*2+2)=X.drop 2:=fun X=>by rw[←List.drop_drop,hd0]
     have ht0:∀ X,(UP S'++X).take (S'.length*2)=UP S':=fun X=>List.take_left' hL
     have ht1:∀ X,(UP S'++X).take (S'.length*2+1)=UP S'++X.take 1:=fun X=>by
      rw[List.take_append,List.take_of_length_le (by omega),hL];congr 2;omega
     have hpos:((0:Int)<(S'.length:Int)+1)=True:=eq_true (by omega)
     have hroom:=hS.room
     have hroomM:=hS.roomM
     rw[List.length_cons]at hroom
     have hlc:(((S'.length:Int)+1-1)=(S'.length:Int)):=by omega
     push_cast -dsimp [yM,hlc,hpos]
     repeat refine an ?_
     generalize hpad:List.replicate ((cap-(S'.length+1))*2) C.any=pad
     have hps:(pad.all C.stayB)=true:=by rw[←hpad];simp[List.all_replicate,C.stayB]
     have hst1:((UP S'++(lvC (ns1,es1)++pad)).all C.stayB)=true:=by rw[List.all_append,Ql,List.all_append,hps];rfl
     have hpl:pad.length=(cap-(S'.length+1))*2:=by rw[←hpad];simp
     refine loop (fun p:List zK×Nat=>⟨[(0,.sc (.func (.yield l) #[] #[])),(1,.row (fsC f)),(7,.bs 1 0 2 (S'.length+1) cap),(8,.ptr 1 (S'.length*2))],[[.any,.any,.any,.any,.any,.any],UP S'++([.sl 1 (zx ns1),.sl 2 (zG p.1)]++pad)],0,p.2⟩) (fun p=>J1 f tr IT sf ((ns1,p.1) :: S') p.2 cap/\2*(IT.length-p.2)<=2*(IT.length-k)) (fun p=>p.1.length) (es1,k) ⟨hS,Nat.le_refl _⟩ ?_ ?_
     ·exact j8.mk [] rfl rfl (Nat.zero_le _) rfl (by push_cast -dsimp [zb,za,CLe,ze]) (by push_cast -dsimp [zb,za,CLe,ze,List.append_assoc];exact z6 hst1)
     ·rintro ⟨es,k1⟩ ⟨hT,hkk⟩
      dsimp only at hT hkk ⊢
      cases es with
      | nil =>
       push_cast -dsimp [hd0,hd1,hd2,ht0,ht1,hlc]
       refine ⟨by omega,by omega,⟨by omega,by omega⟩,(S',k1,cap),hT.pop,by dsimp only;omega,j8.mk [] rfl rfl (Nat.zero_le _) rfl (by push_cast -dsimp [zb,za,CLe,ze]) ?_⟩
       push_cast -dsimp [zb,za,CLe,ze]
       exact zdM (z6 (Ql S')) (X6 (by simp[hpl];omega))
      | cons e r =>
       obtain ⟨y,hy,hym,hk1,hbd,hnext⟩:=hT.next ht hf h3
       have hrl:((0:Int)<(r.length:Int)+1)=True:=eq_true (by omega)
       have hlr:(zG r).length=r.length:=List.length_map ..
       have hhe:zw e.ino f.xs=true:=(hT.has (ns1,e :: r) List.mem_cons_self).2 e List.mem_cons_self
       have hgy:zf e.ino f.xs=y:=hy.symm
       have hb1:ns1.length+1<=1000000:=by have:=hbd.1;simpa using this
       have hb2:(Lib.join (ns1++[e.name]) [47]).length<=1000000:=hbd.2
       have hst2:(zx ns1).length=ns1.length:=List.length_map ..
       push_cast -dsimp [hd0,hd1,hd2,ht0,ht1,hlc,hlr,hrl,hst2,List.append_assoc,List.take_length]
       repeat refine an ?_
       refine cl (YR f e.ino (by omega) hR) ?_;push_cast -dsimp [hgy,hhe]
       refine cl (Xt (ns1++[e.name]) (by simp;omega) (by omega)) ?_;push_cast -dsimp [hk1]
       refine ⟨by push_cast -dsimp [zb,za,CLe,ze],hT.go,br (fun hs1=>?_) (fun hs1=>?_)⟩
       ·push_cast -dsimp
        exact .inr ⟨Nat.succ_pos _,hs1⟩
       ·obtain ⟨w1,w2⟩:=hnext hs1
        by_cases k2:y.kind=2
        ·have hSk:=hT.pos
         have hkl:=hT.le
         rw[List.length_cons]at hSk
         have hc1:(UP S'++C.sl 1 (zx ns1) :: C.sl 2 (List.map kV r) :: pad).length=cap*2:=by
          rw[List.length_append,hL,List.length_cons,List.length_cons,hpl];omega
         have hc2:(UP S'++C.sl 1 (zx ns1) :: C.sl 2 (List.map kV r) :: pad).take ((S'.length+1)*2)=UP S'++[C.sl 1 (zx ns1),C.sl 2 (List.map kV r)]:=by
          rw[List.take_append,List.take_of_length_le (by omega),hL,show (S'.length+1)*2-S'.length*2=2 by omega];rfl
         push_cast -dsimp [k2]
         refine zpy (UP S'++[C.sl 1 (zx ns1),C.sl 2 (List.map kV r)]++[C.sl 1 (zx (ns1++[e.name])),C.sl 2 (zG y.es)]) rfl rfl (by decide) rfl (by decide) (Nat.zero_le _) hc1 hroom hroomM (by omega) (by omega) (by rw[hc2];exact qC (by rw[List.all_append,List.all_append,Ql];rfl)) (fun c' g1 g2=>?_)
         have hw:=w1 c' (by omega) g2
         have hwl:=hw.le
         push_cast -dsimp [k2]
         refine ⟨((ns1++[e.name],y.es) :: (ns1,r) :: S',k1+1,c'),hw,by simp only[List.length_cons];omega,j8.mk [] rfl rfl (Nat.zero_le _) rfl (by push_cast -dsimp [zb,za,CLe,ze]) ?_⟩
         push_cast -dsimp [zb,za,CLe,ze,yM,List.append_assoc]
         exact z6 (by rw[List.all_append,Ql];simp[List.all_replicate,C.stayB])
        ·push_cast -dsimp [k2]
         have hz:=w2 (h2 y hym k2)
         have hle:=hz.le
         refine ⟨(r,k1+1),⟨hz,by dsimp only;omega⟩,by dsimp only;simp,j8.mk [] rfl rfl (Nat.zero_le _) rfl (by push_cast -dsimp [zb,za,CLe,ze]) ?_⟩
         push_cast -dsimp [zb,za,CLe,ze,List.append_assoc]
         exact z6 (by rw[List.all_append,Ql,List.all_cons,List.all_cons,hps];rfl)
end
section
open CA CB
open Go.RowKit
structure zcG (f:FsV) (tr:Int->List (List UInt8)->Jb):Prop where
 tree:uc f tr
 few:zmd f.xs
 rise:z8 f.xs
 third:JR f
 leaf:∀ x∈f.xs,x.kind≠2->x.es = []
structure xg (tr:Int->List (List UInt8)->Jb) (ino:Int) (ns:List (List UInt8)):Prop where
 len:(tr ino ns).length<=100000000
 bound:∀ p∈tr ino ns,Zm p
abbrev zbO (l:Jb):List (List C):=l.map VQ
theorem zh4 {l:Jb} {k:Nat} {it:List C} (h:(zbO l)[k]?=some it):∃ p,l[k]?=some p/\it=VQ p:=by
 rw[List.getElem?_map]at h
 cases hq:l[k]? with
 | none=>rw[hq]at h;cases h
 | some x=>rw[hq]at h;cases h;exact ⟨x,rfl,rfl⟩
theorem zl2 {f:FsV} {tr:Int->List (List UInt8)->Jb} {ino:Int} {ns:List (List UInt8)} (hw:zcG f tr) (hs:xg tr ino ns):Nx Tryz.prog G0 222 [] [.row (fsC f),.row [.sc (.int .i64 ino)],.row [.sl 1 (zx ns)]] [] (zbO (tr ino ns)):=
 za0 f ino ns tr hw.tree hw.few hw.rise hw.third hw.leaf hs.len hs.bound
theorem zg3 (f:FsV) (ino:Int) (ns:List (List UInt8)):Fun Tryz.prog G0 182 [.agg (fsC f),.sc (.int .i64 ino),.sl 1 (zx ns)] (.clo (.func 222) [] [.row (fsC f),.row [.sc (.int .i64 ino)],.row [.sl 1 (zx ns)]]) 0:=by
 refine fon Tryz.func182 ?_;dsimp only[Tryz.f182]
 push_cast -dsimp
 exact dn
theorem zjO (f:FsV):Fun Tryz.prog G0 158 [.agg (fsC f)] (.clo (.func 222) [] [.row (fsC f),.row [.sc (.int .i64 1)],.row [.sl 1 (zx [])]]) 0:=by
 refine fon Tryz.func158 ?_;dsimp only[Tryz.f158]
 push_cast -dsimp
 refine call (Fun.less (zg3 f 1 []) (by push_cast -dsimp [zb,za,CLe,ze])) ?_
 push_cast -dsimp
 exact dn
def X2 (n:Int) (l:Jb):List (List UInt8):=(l.filter fun p=>decide (p.2.ino=n)).map fun p=>qr p.1
def V1 (n:Int) (l:Jb):Option (List UInt8):=(l.find? fun p=>decide (p.2.ino=n)&&decide (p.2.kind=2)).map fun p=>qr p.1
theorem ML (f:FsV) (n:Int) (tr:Int->List (List UInt8)->Jb) (hw:zcG f tr) (hs:xg tr 1 []) :
  Fun Tryz.prog G0 108 [.agg (fsC f),.sc (.int .i64 n)] (.tup [.str ((V1 n (tr 1 [])).getD []),.sc (.bool (V1 n (tr 1 [])).isSome)]) 0:=by
 refine fon Tryz.func108 ?_;dsimp only[Tryz.f108]
 push_cast -dsimp
 refine cl (zjO f) ?_;push_cast -dsimp
 have hl:=hs.len
 have hit:=zl2 hw hs
 generalize tr 1 []=l at hit hl
 refine range (zbO l) (fun k=>match l[k]? with | some p=>decide (p.2.ino=n)&&decide (p.2.kind=2) | none=>false) 4 (fun k=>⟨[],[[.any,.any,.any,.any],[.sc (.int .i64 n)],[.any],[.any]],0,0⟩) hit (by push_cast -dsimp) (by push_cast -dsimp) (by push_cast -dsimp) (Nat.zero_le _) (by push_cast -dsimp) (fun it h=>?_) (fun k _=>rfl) ?_ (fun k it hk hsf=>?_) (fun hsf=>?_)
 ·obtain ⟨x,_,rfl⟩:=List.mem_map.1 h;rfl
 ·exact wk
 ·obtain ⟨x,hx2,rfl⟩:=zh4 hk
  have hfirst:(decide (x.2.ino=n)&&decide (x.2.kind=2))=true->V1 n l=some (qr x.1):=fun hb=>by
   obtain ⟨hkl,hxe⟩:=List.getElem?_eq_some_iff.1 hx2
   unfold V1
   rw[List.find?_eq_some_iff_getElem (b:=x) |>.2 ⟨hb,k,hkl,hxe,fun j hj=>?_⟩]
   ·rfl
   ·have:=hsf j hj
    rw[List.getElem?_eq_getElem (by omega)]at this
    simp only[this];rfl
  by_cases c1:x.2.ino=n
  ·by_cases c2:x.2.kind=2
   ·have hd:=hfirst (by simp[c1,c2])
    push_cast -dsimp [c1,c2]
    refine ⟨by rw[hx2];simp[c1,c2],⟨[],[[.any,.any,.any,.any],[.sc (.int .i64 n)],[.str (qr x.1)],[.sc (.bool true)]],0,0⟩,rfl,wk,?_⟩
    push_cast -dsimp [hd]
    exact dn (by push_cast -dsimp [zb,za,CLe,ze,hd,Option.getD_some,Option.isSome_some])
   ·push_cast -dsimp [c1,c2]
    refine ⟨by rw[hx2];simp[c2],wk⟩
  ·push_cast -dsimp [c1]
   refine ⟨by rw[hx2];simp[c1],wk⟩
 ·have hnone:V1 n l=none:=by
   unfold V1
   rw[Option.map_eq_none_iff,List.find?_eq_none]
   intro x hx
   obtain ⟨k,hk,rfl⟩:=List.getElem_of_mem hx
   have:=hsf k (by simpa using hk)
   rw[List.getElem?_eq_getElem hk]at this
   simpa only[Bool.not_eq_true] using this
  push_cast -dsimp [hnone]
  exact dn (by push_cast -dsimp [zb,za,CLe,ze,Option.getD_none,Option.isSome_none])
end
end Go.Proofs.YtaipngaejfndgaaGreatDoor.Vcg
