/- What the proof of RmsTrue leans on, part 4: Path5 Ref3 PathLaw Open Laid Op1 QuotePlain QuotePlain2 QuotePlain3 OpV Op2 Wld0 Ent1 Ent2 EntW TabW Wld1 Wld2 Wld3 Wld4 Wld5 Room Plc Crt Drp Mov SlcK Sts OpenW StW Sts2 StX Kep Stp Stp2 Stp3 Stp4 Deed Doo Dra1 Dra2 Rf4 Rf5 Rf6 Rf7 Op3 Op4 Op5 Ref19 Rf8 Snd2 Snd3 Snd4 Snd5 Snd6 Snd7 Rf9 Rf10 Grw Con Kit KitBytes QuoteWalk1 Builder QuoteWalk2 Diag1. No condition beyond what each theorem states. -/
import Derived.Test.YtlkjpfiancahiaaGreatDoorRmsTrueKc
import Derived.ProofKit
import Derived.Deep.Slices
import Derived.Deep.Fields
import Derived.ChangeSame
import Derived.ChangeOld
import Derived.Lib.SmallJoins
import Derived.Lib.LaidU8
import Derived.OpenShut
import Derived.FnData
import Derived.Lib.Bytealg
import Derived.WalkKit
import Derived.Lib.Hide
import Derived.Lib.Join
import Derived.Deep.Draws
import Derived.Lib.SlBytesRow
import Derived.StillTailTactics
import Derived.Test.YtlkjpfiancahiaaGreatDoorProg
import Derived.WalkLawsBesides
import Derived.WalkSpells
import Derived.Shelf.Strings.Builder1
import Derived.Shelf.Strings.BuilderF
set_option linter.unusedVariables false
set_option linter.unusedSimpArgs false
set_option linter.unusedSectionVars false
set_option maxRecDepth 100000
set_option maxHeartbeats 4000000
namespace Go.Proofs.YtlkjpfiancahiaaGreatDoor.Vcg
section
open Go.RowKit
def zf0 (xs:List (List UInt8)):Int:=match xs.findIdx? (fun x=>!may x) with | some i=>(i:Int) | none=>-1
theorem zjl (xs:List (List UInt8)):decide (0<=zf0 xs) = !xs.all may:=by
 unfold zf0
 cases h:xs.findIdx? (fun x=>!may x) with
 | none =>
  have:=List.findIdx?_eq_none_iff.1 h
  have h2:xs.all may=true:=List.all_eq_true.2 fun x hx=>by simpa using this x hx
  rw[h2];rfl
 | some i =>
  have h1:=List.findIdx?_eq_some_iff_getElem.1 h
  obtain ⟨hi,hp,_⟩:=h1
  have h2:xs.all may=false:=List.all_eq_false.2 ⟨xs[i],List.getElem_mem hi,by simpa using hp⟩
  rw[h2];simp
theorem HQ (xs:List (List UInt8)) (hx:xs.length<=1000001) (hl:∀ x∈xs,x.length<=1000000):Fun Tryz.prog G0 261 [.sl 1 (zJ xs),.clo (.func 238) [] []] (.sc (.int .i64 (zf0 xs))) 0:=by
 refine fon Tryz.func261 ?_;dsimp only[Tryz.f261]
 push_cast -dsimp
 refine loop (fun k:Nat=>⟨[(0,.sl 1 (zJ xs)),(1,.clo (.func 238) [] []),(7,.sc (.int .i64 (xs.length:Int))),(8,.sc (.int .i64 k))],[],0,0⟩) (fun k=>k<=xs.length/\∀ j (hj:j<xs.length),j<k->may (xs[j]'hj)=true) (fun k=>xs.length-k) 0 ⟨Nat.zero_le _,fun j _ hj=>by omega⟩ ?_ ?_
 ·exact wk
 ·intro k hk
  have hk1:=hk.1
  have hk2:=hk.2
  by_cases h:k<xs.length
  ·have hg:(zJ xs)[k]?=some [.str (xs[k]'h)]:=by rw[strs_get?,List.getElem?_eq_getElem h];rfl
   push_cast -dsimp [h,hg]
   refine ⟨by omega,?_⟩
   refine call (zbF (xs[k]'h) (hl _ (List.getElem_mem h))) ?_
   push_cast -dsimp
   cases hm:may (xs[k]'h) with
   | true =>
    push_cast -dsimp
    refine ⟨by omega,k+1,⟨by omega,fun j hj hjk=>?_⟩,by omega,wk⟩
    rcases Nat.lt_or_ge j k with g | g
    ·exact hk2 j hj g
    ·have:j=k:=by omega
     subst this;exact hm
   | false =>
    push_cast -dsimp
    refine ⟨[],rfl,rfl,?_⟩
    push_cast -dsimp [zb,za,CLe,zd]
    have:xs.findIdx? (fun x=>!may x)=some k:=List.findIdx?_eq_some_iff_getElem.2 ⟨h,by simp[hm],fun j hj=>by simp[hk2 j (by omega) hj]⟩
    simp[zf0,this]
  ·push_cast -dsimp [h]
   refine ⟨[],rfl,rfl,?_⟩
   push_cast -dsimp [zb,za,CLe,zd]
   have:xs.findIdx? (fun x=>!may x)=none:=List.findIdx?_eq_none_iff.2 fun x hx=>by
    obtain ⟨j,hj,rfl⟩:=List.getElem_of_mem hx
    simp[hk2 j hj (by omega)]
   simp[zf0,this]
theorem VL (xs:List (List UInt8)) (hx:xs.length<=1000001) (hl:∀ x∈xs,x.length<=1000000):Fun Tryz.prog G0 237 [.sl 1 (zJ xs),.clo (.func 238) [] []] (qu (!xs.all may)) 0:=by
 have h:=zjl xs
 refine fon Tryz.func237 ?_;dsimp only[Tryz.f237]
 push_cast -dsimp
 refine call (HQ xs hx hl) ?_
 push_cast -dsimp
 exact dn (by push_cast -dsimp [zb,za,CLe,zd,h])
def J2 (p:List UInt8):Bool:=decide (zY (zi p)=p)&&(zi p).all may
def Yn (p:List UInt8):C:=.tup [.own 0 9 1 (zJ (if J2 p then zi p else [])),qu (J2 p)]
theorem Ja (x y:List UInt8) (r:List (List UInt8)) (sep:List UInt8):Lib.join (x :: y :: r) sep=x++sep++Lib.join (y :: r) sep:=by
 simp[Lib.join,List.intercalate,List.intersperse]
theorem YU:∀ xs:List (List UInt8),xs≠[]->(Lib.join xs [47]).length+1=(xs.map fun x=>x.length+1).sum
 | [],h=>absurd rfl h
 | [x],_=>by simp[Lib.join]
 | x :: y :: r,_=>by
  have ih:=YU (y :: r) (by simp)
  rw[Ja]
  simp only[List.length_append,List.length_cons,List.length_nil,List.map_cons,List.sum_cons]at ih ⊢
  omega
theorem xC:∀ l:List UInt8,((jE l).map fun x=>x.length+1).sum=l.length+1
 | []=>rfl
 | b :: l=>by
  have ih:=xC l
  unfold jE
  split
  ·simp only[List.map_cons,List.sum_cons,List.length_nil,List.length_cons,ih];omega
  ·cases h:jE l with
   | nil=>exact absurd h (kN l)
   | cons x r =>
    rw[h]at ih
    simp only[List.map_cons,List.sum_cons,List.length_cons]at ih ⊢
    omega
theorem Z4 (f:List UInt8->Bool):∀ xs:List (List UInt8),((xs.filter f).map fun x=>x.length+1).sum<=(xs.map fun x=>x.length+1).sum
 | []=>by simp
 | x :: r=>by
  have ih:=Z4 f r
  rw[List.filter_cons]
  split
  ·simp only[List.map_cons,List.sum_cons];omega
  ·simp only[List.map_cons,List.sum_cons];omega
theorem zeR:∀ (xs:List (List UInt8)) (x:List UInt8),x∈xs->x.length+1<=(xs.map fun x=>x.length+1).sum
 | y :: r,x,h=>by
  simp only[List.map_cons,List.sum_cons]
  rcases List.mem_cons.1 h with rfl | h
  ·omega
  ·have:=zeR r x h;omega
theorem xn (l:List UInt8):(Lib.join (zi l) [47]).length<=l.length/\∀ x∈zi l,x.length<=l.length:=by
 have h1:=xC l
 have h2:=Z4 (fun x=>!decide (x = [])) (jE l)
 rw[←jV]at h2
 refine ⟨?_,fun x hx=>?_⟩
 ·by_cases h:zi l = []
  ·rw[h];simp[Lib.join]
  ·have:=YU (zi l) h;omega
 ·have:=zeR (zi l) x hx;omega
theorem xk (p:List UInt8) (hp:p.length<=1000000):Fun Tryz.prog G0 210 [.str p] (Yn p) 1:=by
 have hz:=qf p
 have hj:=xn p
 by_cases h1:zY (zi p)=p
 ·have h1':(p=zY (zi p)):=h1.symm
  refine fon Tryz.func210 ?_;dsimp only[Tryz.f210]
  push_cast -dsimp
  refine call (JI p) ?_
  push_cast -dsimp
  refine call (Xx p hp) ?_
  push_cast -dsimp
  refine call (XM (zi p) (by omega) (by omega)) ?_
  push_cast -dsimp [h1]
  refine call (VL (zi p) (by omega) fun x hx=>by have:=hj.2 x hx;omega) ?_
  push_cast -dsimp
  cases hm:(zi p).all may with
  | true =>
   push_cast -dsimp
   exact ⟨[.inl 0],rfl,rfl,by simp only[Yn,J2,h1,hm];push_cast -dsimp [zb,za,CLe,zd]<;>simp⟩
  | false =>
   push_cast -dsimp
   exact ⟨[.inr (9,1)],rfl,rfl,by simp only[Yn,J2,h1,hm];push_cast -dsimp [zb,za,CLe,zd]<;>simp⟩
 ·refine fon Tryz.func210 ?_;dsimp only[Tryz.f210]
  push_cast -dsimp
  refine call (JI p) ?_
  push_cast -dsimp
  refine call (Xx p hp) ?_
  push_cast -dsimp
  refine call (XM (zi p) (by omega) (by omega)) ?_
  push_cast -dsimp [h1]
  exact ⟨[.inr (9,1)],rfl,rfl,by simp only[Yn,J2,h1];push_cast -dsimp [zb,za,CLe,zd]<;>simp⟩
end
section
open Go.RowKit
theorem zkC (l:List UInt8) (b:UInt8) (h:l[0]?=some b):Lib.hasPrefix l [47]=decide ((b.toNat:Int)=47):=by
 cases l with
 | nil=>simp at h
 | cons x r =>
  simp at h;subst h
  unfold Lib.hasPrefix
  by_cases h:x=47
  ·subst h;rfl
  ·have h2:¬((x.toNat:Int)=47):=yR h
   have h3:¬(47=x):=fun e=>h e.symm
   simp[List.isPrefixOf,h2,h3]
theorem zkq (l:List UInt8) (b:UInt8) (h:l[l.length-1]?=some b):Lib.hasSuffix l [47]=decide ((b.toNat:Int)=47):=by
 have hne:l≠[]:=fun e=>by subst e;simp at h
 have hl:l=l.take (l.length-1)++[b]:=by
  have hlt:l.length-1<l.length:=by have:=List.length_pos_iff.2 hne;omega
  have:=List.take_append_drop (l.length-1) l
  rw[List.drop_eq_getElem_cons hlt]at this
  rw[List.getElem?_eq_getElem hlt]at h
  cases h
  rw[List.drop_eq_nil_of_le (by omega)]at this
  exact this.symm
 rw[hl]
 unfold Lib.hasSuffix
 by_cases h:b=47
 ·subst h
  have:([47]:List UInt8) <:+ l.take (l.length-1)++[47]:=List.suffix_append _ _
  rw[List.isSuffixOf_iff_suffix.2 this];rfl
 ·have h2:¬((b.toNat:Int)=47):=yR h
  have h3:¬([47]:List UInt8) <:+ l.take (l.length-1)++[b]:=fun ⟨t,ht⟩=>by
   have:=List.append_inj_right' ht rfl
   simp at this
   exact h this.symm
  have h4:([47]:List UInt8).isSuffixOf (l.take (l.length-1)++[b])=false:=by
   rw[Bool.eq_false_iff];exact fun e=>h3 (List.isSuffixOf_iff_suffix.1 e)
  rw[h4];simp[h2]
theorem Mz:zi [] = []:=rfl
theorem Y7 (p:List UInt8) (hp:p.length<=100000):Fun Tryz.prog G0 74 [.str p] (VI p) 1:=by
 have hn:=QN p (by omega)
 have hs:=qf p
 by_cases hp0:p = []
 ·subst hp0
  have h0:=Mz
  refine fon Tryz.func74 ?_;dsimp only[Tryz.f74]
  push_cast -dsimp
  refine call hn ?_
  push_cast -dsimp [h0]
  exact ⟨[.inl 0],rfl,rfl,by simp only[VI];push_cast -dsimp [zb,za,CLe,zd,h0]<;>exact ⟨rfl,rfl⟩⟩
 ·have hl:0<p.length:=List.length_pos_iff.2 hp0
  obtain ⟨b,hb⟩:∃ b,p[0]?=some b:=⟨_,List.getElem?_eq_getElem hl⟩
  have hpb:=zkC p b hb
  by_cases h0:zi p = []
  ·refine fon Tryz.func74 ?_;dsimp only[Tryz.f74]
   push_cast -dsimp
   refine call hn ?_
   push_cast -dsimp [h0,hl,hb]
   exact ⟨[.inl 0],rfl,rfl,by simp only[VI];push_cast -dsimp [zb,za,CLe,zd,h0,hpb]<;>simp⟩
  ·have hlen:0<(zi p).length:=List.length_pos_iff.2 h0
   obtain ⟨c,hc⟩:∃ c,p[p.length-1]?=some c:=⟨_,List.getElem?_eq_getElem (by omega)⟩
   have hsf:=zkq p c hc
   have hidx:((p.length:Int)-1).toNat=p.length-1:=by omega
   refine fon Tryz.func74 ?_;dsimp only[Tryz.f74]
   push_cast -dsimp
   refine call hn ?_
   push_cast -dsimp [hlen,hl,hb,hidx,hc]
   refine ⟨by omega,by omega,[.inl 0],rfl,rfl,by simp only[VI];push_cast -dsimp [zb,za,CLe,zd,h0,hpb,hsf]<;>simp⟩
theorem U9 (xs:List (List UInt8)) (k:Nat) (x:List UInt8) (h:xs[k]?=some x):Lib.join (xs.take (k+1)) [47]=(if k=0 then x else Lib.join (xs.take k) [47]++[47]++x):=by
 cases xs with
 | nil=>simp at h
 | cons y r =>
  cases k with
  | zero=>simp at h;subst h;simp[Lib.join_one]
  | succ k =>
   simp only[List.take_succ_cons,Nat.succ_ne_zero,if_false]
   rw[Lib.join_cons,Lib.join_cons,Lib.joinTail_take_succ _ _ _ x (by simpa using h)]
   simp[List.append_assoc]
theorem yv (xs:List (List UInt8)) (k:Nat):(Lib.join (xs.take k) [47]).length<=(Lib.join xs [47]).length:=by
 by_cases h:xs.take k = []
 ·rw[h];simp[Lib.join]
 ·have h1:=YU (xs.take k) h
  have hx:xs≠[]:=fun e=>h (by rw[e];simp)
  have h2:=YU xs hx
  have h3:((xs.take k).map fun x=>x.length+1).sum<=(xs.map fun x=>x.length+1).sum:=by
   conv=>rhs;rw[←List.take_append_drop k xs,List.map_append,List.sum_append]
   omega
  omega
theorem za1 (a:Bool) (xs:List (List UInt8)) (s:Bool) (hx:xs.length<=1000001) (hl:(Lib.join xs [47]).length<=100000000):Fun Tryz.prog G0 128 [zio a xs s] (.str (put a xs s)) 0:=by
 unfold zio
 obtain ⟨p0,hp0,hp1⟩:∃ p0:List UInt8,p0=(if a then [47] else [])/\p0.length<=1:=⟨_,rfl,by cases a<;>simp⟩
 have fin:∀ t:List UInt8,t=p0++Lib.join xs [47]->put a xs s=(if s&&!decide (xs = []) then t++[47] else t):=fun t ht=>by
  rw[ht,hp0];unfold put
  cases s<;>simp<;>(by_cases h:xs = []<;>simp[h])
 refine fon Tryz.func128 ?_;dsimp only[Tryz.f128]
 push_cast -dsimp
 cases a
 all_goals
  simp only[Bool.false_eq_true,if_false,if_true]at hp0
  push_cast -dsimp
  refine loop (fun k:Nat=>⟨[(1,.ptr 0 0),(3,.str (p0++Lib.join (xs.take k) [47])),(4,.sc (.int .i64 k))],[[.any,.sl 1 (zJ xs),qu s]],0,0⟩) (fun k=>k<=xs.length) (fun k=>xs.length-k) 0 (Nat.zero_le _) ?_ ?_
  ·exact j8.mk [] rfl rfl (Nat.zero_le _) rfl (by push_cast -dsimp [zb,za,CLe,zd]<;>simp[hp0,Lib.join]) (by push_cast -dsimp [zb,za,CLe,zd])
  ·intro k hk
   have hjk:=yv xs k
   by_cases h:k<xs.length
   ·have hg:=XV xs k h
    have hjs:=U9 xs k (xs[k]'h) (List.getElem?_eq_getElem h)
    have hj1:=yv xs (k+1)
    have hjl:(Lib.join (xs.take (k+1)) [47]).length=(if k=0 then (xs[k]'h).length else (Lib.join (xs.take k) [47]).length+1+(xs[k]'h).length):=by
     rw[hjs];split<;>simp<;>omega
    by_cases hk0:k=0
    ·subst hk0
     push_cast -dsimp [h,hg]
     simp only[if_true]at hjl
     have hj0:(Lib.join ([]:List (List UInt8)) [47]).length=0:=rfl
     repeat refine an ?_
     refine ⟨1,by omega,by omega,j8.mk [] rfl rfl (Nat.zero_le _) rfl ?_ (by push_cast -dsimp [zb,za,CLe,zd])⟩
     push_cast -dsimp [zb,za,CLe,zd]
     have e:Lib.join (xs.take 1) [47]=xs[0]'h:=by rw[show (1:Nat)=0+1 from rfl,hjs];simp
     rw[e];simp[Lib.join]
    ·have hk1:0<k:=by omega
     push_cast -dsimp [h,hg,hk1]
     rw[if_neg hk0]at hjl
     repeat refine an ?_
     refine ⟨k+1,by omega,by omega,j8.mk [] rfl rfl (Nat.zero_le _) rfl ?_ (by push_cast -dsimp [zb,za,CLe,zd])⟩
     push_cast -dsimp [zb,za,CLe,zd]
     simp[hjs,hk0]
   ·have hkl:k=xs.length:=by omega
    have hf:=fin (p0++Lib.join (xs.take k) [47]) (by rw[hkl,List.take_length])
    push_cast -dsimp [h]
    cases s
    ·push_cast -dsimp
     exact ⟨[],rfl,rfl,by push_cast -dsimp [zb,za,CLe,zd];rw[hf];simp⟩
    ·by_cases hx0:0<xs.length
     ·have hx1:xs≠[]:=List.length_pos_iff.1 hx0
      push_cast -dsimp [hx0]
      repeat refine an ?_
      exact ⟨[],rfl,rfl,by push_cast -dsimp [zb,za,CLe,zd];rw[hf];simp[hx1]⟩
     ·have hx1:xs = []:=List.eq_nil_of_length_eq_zero (by omega)
      push_cast -dsimp [hx0]
      exact ⟨[],rfl,rfl,by push_cast -dsimp [zb,za,CLe,zd];rw[hf];simp[hx1]⟩
theorem zbR (xs:List (List UInt8)) (k:Nat) (x:List UInt8) (h:xs[k]?=some x):(if xs.take (k+1) = [] then [] else zY (xs.take (k+1)))=(if xs.take k = [] then [] else zY (xs.take k))++[47]++x:=by
 have hk:k<xs.length:=(List.getElem?_eq_some_iff.1 h).1
 have h1:xs.take (k+1)≠[]:=fun e=>by have:=congrArg List.length e;rw[List.length_take]at this;simp only[List.length_nil]at this;omega
 rw[if_neg h1]
 unfold zY
 rw[if_neg h1,U9 xs k x h]
 by_cases hk0:k=0
 ·subst hk0;simp
 ·have h2:xs.take k≠[]:=fun e=>by have:=congrArg List.length e;rw[List.length_take]at this;simp only[List.length_nil]at this;omega
  simp[h2,hk0]
def jst (xs:List (List UInt8)) (k:Nat):List UInt8:=if xs.take k = [] then [] else zY (xs.take k)
theorem zf1 (xs:List (List UInt8)) (k:Nat):(jst xs k).length<=(Lib.join xs [47]).length+1:=by
 unfold jst
 split
 ·simp
 ·rename_i h
  have:=yv xs k
  unfold zY
  rw[if_neg h]
  simp;omega
theorem vn (xs:List (List UInt8)) (hx:xs.length<=2000001) (hl:(Lib.join xs [47]).length<=100000000):Fun Tryz.prog G0 49 [.sl 1 (zJ xs)] (.str (zY xs)) 0:=by
 by_cases h0:xs = []
 ·subst h0
  refine fon Tryz.func49 ?_;dsimp only[Tryz.f49]
  push_cast -dsimp
  exact ⟨[],rfl,rfl,by push_cast -dsimp [zb,za,CLe,zd]<;>simp[zY]⟩
 ·have h0':¬((xs.length:Int)=0):=by have:=List.length_pos_iff.2 h0;omega
  refine fon Tryz.func49 ?_;dsimp only[Tryz.f49]
  push_cast -dsimp [h0']
  refine loop (fun k:Nat=>⟨[(0,.sl 1 (zJ xs)),(3,.str (jst xs k)),(4,.sc (.int .i64 k))],[],0,0⟩) (fun k=>k<=xs.length) (fun k=>xs.length-k) 0 (Nat.zero_le _) ?_ ?_
  ·exact j8.mk [] rfl rfl (Nat.zero_le _) rfl (by push_cast -dsimp [zb,za,CLe,zd]<;>simp[jst]) (by push_cast -dsimp [zb,za,CLe,zd])
  ·intro k hk
   by_cases h:k<xs.length
   ·have hg:=XV xs k h
    have hst:jst xs (k+1)=jst xs k++[47]++xs[k]'h:=zbR xs k (xs[k]'h) (List.getElem?_eq_getElem h)
    have hjk:=zf1 xs k
    have hjl:=zf1 xs (k+1)
    rw[hst]at hjl
    simp only[List.length_append,List.length_cons,List.length_nil]at hjl
    push_cast -dsimp [h,hg]
    repeat refine an ?_
    refine ⟨k+1,by omega,by omega,j8.mk [] rfl rfl (Nat.zero_le _) rfl ?_ (by push_cast -dsimp [zb,za,CLe,zd])⟩
    push_cast -dsimp [zb,za,CLe,zd]
    simp[hst]
   ·have hkl:k=xs.length:=by omega
    push_cast -dsimp [h]
    exact ⟨[],rfl,rfl,by push_cast -dsimp [zb,za,CLe,zd]<;>simp[jst,hkl,h0]⟩
theorem Hq (l:List UInt8) (hl:l.length<=2000000):Fun Tryz.prog G0 48 [.str l] (qu (may l)) 0:=by
 refine fon Tryz.func48 ?_;dsimp only[Tryz.f48]
 push_cast -dsimp
 refine loop (fun k:Nat=>⟨[(0,.str l),(3,.sc (.int .i64 k))],[],0,0⟩) (fun k=>k<=l.length/\∀ j (hj:j<l.length),j<k->bad (l[j]'hj)=false) (fun k=>l.length-k) 0 ⟨Nat.zero_le _,fun j _ hj=>by omega⟩ ?_ ?_
 ·exact wk
 ·intro k hk
  have hk1:=hk.1
  have hk2:=hk.2
  by_cases h:k<l.length
  ·have hb:l[k]?=some (l[k]'h):=List.getElem?_eq_getElem h
   have hbad:bad (l[k]'h)=true->may l=false:=fun hb=>by
    have:l.any bad=true:=List.any_eq_true.2 ⟨l[k]'h,List.getElem_mem h,hb⟩
    simp[may,this]
   by_cases h47:l[k]'h=47
   ·have h1:(((l[k]'h).toNat:Int)=47):=by rw[h47];rfl
    push_cast -dsimp [h,hb,h1]
    refine ⟨by omega,[],rfl,rfl,?_⟩
    push_cast -dsimp [zb,za,CLe,zd]
    rw[hbad (by simp[bad,h47])]
   ·have h1:¬(((l[k]'h).toNat:Int)=47):=yR h47
    by_cases h00:l[k]'h=0
    ·have h2:(((l[k]'h).toNat:Int)=0):=by rw[h00];rfl
     push_cast -dsimp [h,hb,h1,h2]
     refine ⟨by omega,by omega,[],rfl,rfl,?_⟩
     push_cast -dsimp [zb,za,CLe,zd]
     rw[hbad (by simp[bad,h00])]
    ·have h2:¬(((l[k]'h).toNat:Int)=0):=yR h00
     push_cast -dsimp [h,hb,h1,h2]
     repeat refine an ?_
     refine ⟨k+1,⟨by omega,fun j hj hjk=>?_⟩,by omega,wk⟩
     rcases Nat.lt_or_ge j k with g | g
     ·exact hk2 j hj g
     ·have:j=k:=by omega
      subst this
      simp[bad,h47,h00]
  ·have hany:l.any bad=false:=List.any_eq_false.2 fun x hx=>by
    obtain ⟨j,hj,rfl⟩:=List.getElem_of_mem hx
    simp[hk2 j hj (by omega)]
   obtain rfl:k=l.length:=by omega
   by_cases h0:l = []
   ·subst h0
    push_cast -dsimp
    exact ⟨[],rfl,rfl,by push_cast -dsimp [zb,za,CLe,zd]<;>simp[may]⟩
   ·have h1:(1:Int)<=(l.length:Int):=by have:=List.length_pos_iff.2 h0;omega
    by_cases h2:(l.length:Int)<=255
    ·have h2':l.length<=255:=by omega
     by_cases h4:l = [46]
     ·subst h4
      push_cast -dsimp
      exact ⟨[],rfl,rfl,by push_cast -dsimp [zb,za,CLe,zd]<;>simp[may]⟩
     ·by_cases h5:l = [46,46]
      ·subst h5
       push_cast -dsimp [h4]
       exact ⟨[],rfl,rfl,by push_cast -dsimp [zb,za,CLe,zd]<;>simp[may]⟩
      ·push_cast -dsimp [h,h1,h2,h4,h5]
       exact ⟨[],rfl,rfl,by push_cast -dsimp [zb,za,CLe,zd]<;>simp[may,h0,h2',hany,h4,h5]⟩
    ·have h2':¬l.length<=255:=by omega
     push_cast -dsimp [h,h1,h2]
     exact ⟨[],rfl,rfl,by push_cast -dsimp [zb,za,CLe,zd]<;>simp[may,h2']⟩
theorem UB (p:List UInt8) (hp:p.length<=100000):Fun Tryz.prog G0 125 [.str p] (qu (J7 p)) 0:=by
 have hn:=QN p (by omega)
 refine fon Tryz.func125 ?_;dsimp only[Tryz.f125]
 push_cast -dsimp
 refine call hn ?_
 push_cast -dsimp
 refine loop (fun k:Nat=>⟨[(0,.str p),(3,.own 0 9 1 (zJ (zi p))),(4,.sc (.int .i64 k))],[],1,0⟩) (fun k=>k<=(zi p).length/\∀ j (hj:j<(zi p).length),j<k->((zi p)[j]'hj).length<=255) (fun k=>(zi p).length-k) 0 ⟨Nat.zero_le _,fun j _ hj=>by omega⟩ ?_ ?_
 ·exact wks [.inl 0]
 ·intro k hk
  have hk1:=hk.1
  have hk2:=hk.2
  have hs:=qf p
  by_cases h:k<(zi p).length
  ·have hg:=XV (zi p) k h
   by_cases h2:((zi p)[k]'h).length<=255
   ·have h2':¬(255:Int)<(((zi p)[k]'h).length:Int):=by omega
    push_cast -dsimp [h,hg,h2']
    repeat refine an ?_
    refine ⟨k+1,⟨by omega,fun j hj hjk=>?_⟩,by omega,wks [.inl 0]⟩
    rcases Nat.lt_or_ge j k with g | g
    ·exact hk2 j hj g
    ·have:j=k:=by omega
     subst this;exact h2
   ·have h2':(255:Int)<(((zi p)[k]'h).length:Int):=by omega
    push_cast -dsimp [h,hg,h2']
    refine ⟨by omega,[],rfl,rfl,?_⟩
    push_cast -dsimp [zb,za,CLe,zd]
    have:(zi p).any (fun x=>decide (255<x.length))=true:=List.any_eq_true.2 ⟨(zi p)[k]'h,List.getElem_mem h,by simp;omega⟩
    simp[J7,this]
  ·have:(zi p).any (fun x=>decide (255<x.length))=false:=List.any_eq_false.2 fun x hx=>by
    obtain ⟨j,hj,rfl⟩:=List.getElem_of_mem hx
    have:=hk2 j hj (by omega)
    simp;omega
   push_cast -dsimp [h]
   refine ⟨[],rfl,rfl,?_⟩
   push_cast -dsimp [zb,za,CLe,zd]
   simp[J7,this]
   omega
theorem vG (p:List UInt8) (hp:p.length<=100000) (hb:zi p = []->Lib.hasPrefix p [47] = !decide (p = [])):Fun Tryz.prog G0 70 [.str p] (.str (Jt p)) 0:=by
 have hn:=QN p (by omega)
 have hs:=qf p
 by_cases h:zi p = []
 ·by_cases h0:p = []
  ·subst h0
   refine fon Tryz.func70 ?_;dsimp only[Tryz.f70]
   push_cast -dsimp
   refine call hn ?_
   push_cast -dsimp [h]
   exact ⟨[],rfl,rfl,by push_cast -dsimp [zb,za,CLe,zd]<;>rfl⟩
  ·have hb':=hb h
   refine fon Tryz.func70 ?_;dsimp only[Tryz.f70]
   push_cast -dsimp
   refine call hn ?_
   push_cast -dsimp [h,h0]
   exact ⟨[],rfl,rfl,by push_cast -dsimp [zb,za,CLe,zd]<;>simp[Jt,h,hb',h0]⟩
 ·have hl:0<(zi p).length:=List.length_pos_iff.2 h
  have hg:=XV (zi p) ((zi p).length-1) (by omega)
  have hidx:(((zi p).length:Int)-1).toNat=(zi p).length-1:=by omega
  refine fon Tryz.func70 ?_;dsimp only[Tryz.f70]
  push_cast -dsimp
  refine call hn ?_
  push_cast -dsimp [hl,hidx,hg]
  refine ⟨by omega,by omega,[],rfl,rfl,?_⟩
  push_cast -dsimp [zb,za,CLe,zd]
  unfold Jt
  rw[List.getLastD_eq_getLast?,List.getLast?_eq_getElem?,List.getElem?_eq_getElem (by omega)]
  rfl
theorem Vk (p:List UInt8) (hp:p.length<=2000000):Fun Tryz.prog G0 21 [.str p] (Yn p) 1:=by
 have hn:=QN p (by omega)
 have hs:=qf p
 have hj:=xn p
 refine fon Tryz.func21 ?_;dsimp only[Tryz.f21]
 push_cast -dsimp
 refine call hn ?_
 push_cast -dsimp
 refine loop (fun k:Nat=>⟨[(0,.str p),(4,.own 0 9 1 (zJ (zi p))),(5,.sc (.int .i64 k))],[],1,0⟩) (fun k=>k<=(zi p).length/\∀ j (hj:j<(zi p).length),j<k->may ((zi p)[j]'hj)=true) (fun k=>(zi p).length-k) 0 ⟨Nat.zero_le _,fun j _ hj=>by omega⟩ ?_ ?_
 ·exact wks [.inl 0]
 ·intro k hk
  have hk1:=hk.1
  have hk2:=hk.2
  by_cases h:k<(zi p).length
  ·have hg:=XV (zi p) k h
   have hlen:=hj.2 ((zi p)[k]'h) (List.getElem_mem h)
   push_cast -dsimp [h,hg]
   refine ⟨by omega,?_⟩
   refine call (Hq ((zi p)[k]'h) (by omega)) ?_
   push_cast -dsimp
   cases hm:may ((zi p)[k]'h) with
   | true =>
    push_cast -dsimp
    repeat refine an ?_
    refine ⟨k+1,⟨by omega,fun j hj hjk=>?_⟩,by omega,wks [.inl 0]⟩
    rcases Nat.lt_or_ge j k with g | g
    ·exact hk2 j hj g
    ·have:j=k:=by omega
     subst this;exact hm
   | false =>
    have hall:(zi p).all may=false:=List.all_eq_false.2 ⟨(zi p)[k]'h,List.getElem_mem h,by simp[hm]⟩
    push_cast -dsimp
    exact ⟨[.inr (9,1)],rfl,rfl,by simp only[Yn,J2,hall];push_cast -dsimp [zb,za,CLe,zd]<;>simp⟩
  ·have hall:(zi p).all may=true:=List.all_eq_true.2 fun x hx=>by
    obtain ⟨j,hj,rfl⟩:=List.getElem_of_mem hx
    exact hk2 j hj (by omega)
   push_cast -dsimp [h]
   refine call (vn (zi p) (by omega) (by omega)) ?_
   push_cast -dsimp
   by_cases h1:zY (zi p)=p
   ·push_cast -dsimp [h1]
    exact ⟨[.inl 0],rfl,rfl,by simp only[Yn,J2,h1,hall];push_cast -dsimp [zb,za,CLe,zd]<;>simp⟩
   ·push_cast -dsimp [h1]
    exact ⟨[.inr (9,1)],rfl,rfl,by simp only[Yn,J2,h1];push_cast -dsimp [zb,za,CLe,zd]<;>simp⟩
end
section
open Go.RowKit
def Qi (x:List UInt8):Prop:=x≠[]/\(47:UInt8)∉x
theorem zej:∀ a t:List UInt8,jE (a++47 :: t)=jE a++jE t
 | [],t=>by
  have:jE (47 :: t) = [] :: jE t:=rfl
  exact this
 | b :: a,t=>by
  have ih:=zej a t
  have e1:jE (b :: (a++47 :: t))=if b=47 then [] :: jE (a++47 :: t) else match jE (a++47 :: t) with
   | []=>[[b]]
   | x :: r=>(b :: x) :: r:=rfl
  have e2:jE (b :: a)=if b=47 then [] :: jE a else match jE a with
   | []=>[[b]]
   | x :: r=>(b :: x) :: r:=rfl
  rw[List.cons_append,e1,e2,ih]
  by_cases hb:b=47
  ·simp[hb]
  ·rw[if_neg hb,if_neg hb]
   have hne:=kN a
   cases hs:jE a with
   | nil=>exact absurd hs hne
   | cons x r=>simp
theorem zfb:∀ x:List UInt8,(47:UInt8)∉x->jE x = [x]
 | [],_=>rfl
 | b :: x,h=>by
  have hb:¬(b=47):=fun e=>h (by rw[e];exact List.mem_cons_self)
  have ih:=zfb x (fun hx=>h (List.mem_cons_of_mem _ hx))
  unfold jE
  rw[if_neg hb,ih]
theorem zeB:∀ (l x:List UInt8),x∈jE l->(47:UInt8)∉x
 | [],x,h=>by simp[jE]at h;subst h;simp
 | b :: l,x,h=>by
  have ih:=zeB l
  unfold jE at h
  by_cases hb:b=47
  ·rw[if_pos hb]at h
   rcases List.mem_cons.1 h with rfl | h
   ·simp
   ·exact ih x h
  ·rw[if_neg hb]at h
   have hne:=kN l
   cases hs:jE l with
   | nil=>exact absurd hs hne
   | cons y r =>
    rw[hs]at h ih
    simp only at h
    rcases List.mem_cons.1 h with rfl | h
    ·intro hm
     rcases List.mem_cons.1 hm with e | hm
     ·exact hb e.symm
     ·exact ih y List.mem_cons_self hm
    ·exact ih x (List.mem_cons_of_mem _ h)
theorem zdI {l x:List UInt8} (h:x∈zi l):Qi x:=by
 rw[jV,List.mem_filter]at h
 exact ⟨by simpa using h.2,zeB l x h.1⟩
theorem U0 (a t:List UInt8):zi (a++47 :: t)=zi a++zi t:=by
 rw[jV,jV,jV,zej,List.filter_append]
theorem Ma {x:List UInt8} (h:Qi x):zi x = [x]:=by
 rw[jV,zfb x h.2]
 simp[h.1]
theorem Qu (l:List UInt8):zi (47 :: l)=zi l:=U0 [] l
theorem ZY:∀ xs:List (List UInt8),(∀ x∈xs,Qi x)->zi (Lib.join xs [47])=xs
 | [],_=>rfl
 | [x],h=>by rw[Lib.join_one];exact Ma (h x List.mem_cons_self)
 | x :: y :: r,h=>by
  have ih:=ZY (y :: r) fun z hz=>h z (List.mem_cons_of_mem _ hz)
  rw[Ja,List.append_assoc]
  show zi (x++47 :: Lib.join (y :: r) [47])=_
  rw[U0,ih,Ma (h x List.mem_cons_self)]
  rfl
theorem Ug (xs:List (List UInt8)) (h:∀ x∈xs,Qi x):zi (zY xs)=xs:=by
 unfold zY
 by_cases hx:xs = []
 ·rw[if_pos hx,hx];rfl
 ·rw[if_neg hx,Qu,ZY xs h]
theorem zev (a:Bool) (xs:List (List UInt8)) (s:Bool) (h:∀ x∈xs,Qi x):zi (put a xs s)=xs:=by
 have hj:=ZY xs h
 unfold put
 have e1:∀ t:List UInt8,zi ((if a then [47] else [])++t)=zi t:=fun t=>by
  cases a
  ·rfl
  ·exact Qu t
 rw[List.append_assoc,e1]
 split
 ·rw[show Lib.join xs [47]++[47]=Lib.join xs [47]++47 :: [] from rfl,U0,hj]
  simp[Mz]
 ·rw[List.append_nil,hj]
theorem V6 (b:UInt8) (l:List UInt8):Lib.hasPrefix (b :: l) [47]=decide (b=47):=by
 have:=zkC (b :: l) b rfl
 rw[this]
 by_cases h:b=47
 ·subst h;rfl
 ·have h2:¬((b.toNat:Int)=47):=yR h
  simp[h,h2]
theorem zkZ:Lib.hasPrefix [] [47]=false:=rfl
theorem zfV (x:List UInt8) (r:List (List UInt8)):∃ t,Lib.join (x :: r) [47]=x++t:=by
 cases r with
 | nil=>exact ⟨[],by rw[Lib.join_one];simp⟩
 | cons y r=>exact ⟨[47]++Lib.join (y :: r) [47],by rw[Ja,List.append_assoc]⟩
theorem zmT (a:Bool) (xs:List (List UInt8)) (s:Bool) (h:∀ x∈xs,Qi x):Lib.hasPrefix (put a xs s) [47]=a:=by
 unfold put
 cases a
 ·cases xs with
  | nil=>simp[Lib.join,zkZ]
  | cons x r =>
   obtain ⟨t,ht⟩:=zfV x r
   have hx:=h x List.mem_cons_self
   rw[ht]
   cases x with
   | nil=>exact absurd rfl hx.1
   | cons b x =>
    have:¬(b=47):=fun e=>hx.2 (by rw[e];exact List.mem_cons_self)
    simp[V6,this]
 ·simp[V6]
theorem uQ (l:List UInt8) (b:UInt8):Lib.hasSuffix (l++[b]) [47]=decide (b=47):=by
 have:=zkq (l++[b]) b (by simp)
 rw[this]
 by_cases h:b=47
 ·subst h;rfl
 ·have h2:¬((b.toNat:Int)=47):=yR h
  simp[h,h2]
theorem Mf:∀ xs:List (List UInt8),xs≠[]->(∀ x∈xs,Qi x)->∃ t b,Lib.join xs [47]=t++[b]/\b≠47
 | [],h,_=>absurd rfl h
 | [x],_,h=>by
  have hx:=h x List.mem_cons_self
  refine ⟨x.dropLast,x.getLast hx.1,?_,fun e=>hx.2 ?_⟩
  ·rw[Lib.join_one,List.dropLast_concat_getLast]
  ·rw[←e];exact List.getLast_mem _
 | x :: y :: r,_,h=>by
  obtain ⟨t,b,e,hb⟩:=Mf (y :: r) (by simp) fun z hz=>h z (List.mem_cons_of_mem _ hz)
  exact ⟨x++[47]++t,b,by rw[Ja,e];simp,hb⟩
theorem NA (a:Bool) (xs:List (List UInt8)) (s:Bool) (h:∀ x∈xs,Qi x):(!decide (xs = [])&&Lib.hasSuffix (put a xs s) [47])=(s&&!decide (xs = [])):=by
 by_cases hx:xs = []
 ·simp[hx]
 ·unfold put
  cases s
  ·obtain ⟨t,b,e,hb⟩:=Mf xs hx h
   have:=uQ ((if a then [47] else [])++t) b
   simp only[Bool.false_and,Bool.false_eq_true,if_false,List.append_nil,e]
   rw[←List.append_assoc,this]
   simp[hb]
  ·have:=uQ ((if a then [47] else [])++Lib.join xs [47]) 47
   simp only[hx,Bool.true_and,decide_false,Bool.not_false,if_true]
   rw[this];rfl
theorem HE (p:List UInt8) (h:zi p = []):Lib.hasPrefix p [47] = !decide (p = []):=by
 cases p with
 | nil=>rfl
 | cons b l =>
  rw[V6]
  by_cases hb:b=47
  ·simp[hb]
  ·exfalso
   rw[jV]at h
   have hne:=kN l
   have:∃ x r,jE (b :: l)=(b :: x) :: r:=by
    unfold jE
    rw[if_neg hb]
    cases hs:jE l with
    | nil=>exact absurd hs hne
    | cons x r=>exact ⟨x,r,rfl⟩
   obtain ⟨x,r,e⟩:=this
   rw[e]at h
   simp at h
theorem X0 {x:List UInt8} (h:may x=true):Qi x:=by
 simp only[may,Bool.and_eq_true,Bool.not_eq_true',decide_eq_false_iff_not]at h
 refine ⟨h.1.1.1.1,fun hm=>?_⟩
 have:=List.any_eq_false.1 h.1.1.2 47 hm
 exact this (by decide)
end
section
open Go.RowKit Go.ChangeMaps Go.ChangeShapes Go.WideShapes Go.Deep Go.Joins
theorem xL (R:Env):Xp G0 R:=fun g cs h=>by cases h
theorem Vo:∀ {rows:List (List C)},(∀ r∈rows,∃ c,r = [c]/\∃ l:List UInt8,c = .str l/\l.length<=maxLen)->∃ xs:List (List UInt8),rows=zJ xs/\∀ x∈xs,x.length<=maxLen
 | [],_=>⟨[],rfl,fun x h=>by cases h⟩
 | r :: rows,h=>by
  obtain ⟨xs,rfl,hx⟩:=Vo fun r' hr=>h r' (List.mem_cons_of_mem _ hr)
  obtain ⟨c,rfl,l,rfl,hl⟩:=h r List.mem_cons_self
  exact ⟨l :: xs,rfl,fun x hx'=>(List.mem_cons.1 hx').elim (fun e=>e▸hl) (hx x)⟩
section
variable {H:Type} {enc:TypeId×Value->H} {W:World}
theorem zig:Opn enc Tryz.prog W 30 fun c=>∃ xs:List (List UInt8),c = .sl 1 (zJ xs)/\xs.length<=maxLen/\∀ x∈xs,x.length<=maxLen:=fun fuel cs x hx=>by
 obtain ⟨v,c,rfl,⟨rows,rfl,hl,hr⟩,h1,h2⟩:=Opn.slice (W:=W) (enc:=enc) Tryz.underlying30 (show Tryz.prog.cellsOf 9=1 by kernel_rfl) (Nat.zero_lt_one) (jb.one (Opn.str Tryz.underlying9)) fuel cs x hx
 obtain ⟨xs,rfl,hx'⟩:=Vo hr
 exact ⟨v,_,rfl,⟨xs,rfl,by simpa using hl,hx'⟩,h1,h2⟩
end
end
section
open Go.RowKit
mutual
/-- the cells that read as a datum of J2 data -/
def Z3:DataW Unit->Option (List Value)
 | .lit (.int k n)=>some [.int k n]
 | .lit (.bool b)=>some [.bool b]
 | .lit (.string l)=>some [.string ⟨l.toArray⟩]
 | .agg ds=>Ua ds
 | _=>none
def Ua:List (DataW Unit)->Option (List Value)
 | []=>some []
 | d :: ds=>match Z3 d,Ua ds with
  | some a,some b=>some (a++b)
  | _,_=>none
end
def ND (P:Program):Nat->List Field->Nat->Bool
 | j,[],n=>j==n
 | j,f :: fs,n=>f.offset==j&&ND P (j+P.cellsOf f.type) fs n
def UZ (P:Program):Nat->TypeId->Bool
 | 0,_=>false
 | m+1,t=>match P.underlying t with
  | some .bool=>true
  | some (.int _)=>true
  | some .string=>true
  | some (.struct fs)=>ND P 0 fs.toList (P.cellsOf t)&&fs.toList.all fun f=>UZ P m f.type
  | some (.array n e)=>UZ P m e&&P.cellsOf t==n*P.cellsOf e
  | _=>false
section
variable {enc:TypeId×Value->Unit} {P:Program} {w:World} {base:Nat} {spare:Nat->Bool} {held:Bool}
theorem U7 {d:DataW Unit} {ds:List (DataW Unit)} {a b:List Value} (h1:Z3 d=some a) (h2:Ua ds=some b):Ua (d :: ds)=some (a++b):=by
 rw[Ua,h1,h2]
theorem Q4 {n:Nat} {cs:List Value} (ih:∀ t cs d p,UZ P n t=true->DataW.trod enc P w base spare held n t cs=some (d,p)->Z3 d=some cs) {m:Nat} (hm:∀ t cs d p,UZ P m t=true->DataW.trod enc P w base spare held n t cs=some (d,p)->Z3 d=some cs) :
  ∀ (fs:List Field) (j N:Nat) (xs:List (DataW Unit×List MemPlace)),ND P j fs N=true->(fs.all fun f=>UZ P m f.type)=true->cs.length=N->xs.length=fs.length ->
   (∀ (i:Nat) (f:Field),fs[i]?=some f->DataW.trod enc P w base spare held n f.type ((cs.drop f.offset).take (P.cellsOf f.type))=xs[i]?)->Ua (xs.map (·.1))=some (cs.drop j)
 | [],j,N,xs,hc,_,hl,hx,_=>by
  simp only[ND,beq_iff_eq]at hc
  match xs,hx with
  | [],_=>rw[List.drop_of_length_le (by omega)];rfl
 | f :: fs,j,N,xs,hc,ha,hl,hx,hf=>by
  simp only[ND,Bool.and_eq_true,beq_iff_eq]at hc
  simp only[List.all_cons,Bool.and_eq_true]at ha
  match xs,hx with
  | x :: xs,hx =>
   have h0:=hf 0 f rfl
   have e0:Z3 x.1=some ((cs.drop f.offset).take (P.cellsOf f.type)):=hm _ _ _ x.2 ha.1 h0
   have e1:=Q4 ih hm fs _ N xs hc.2 ha.2 hl (by simpa using hx) fun i g hg=>hf (i+1) g hg
   rw[List.map_cons,U7 e0 e1,hc.1,←List.drop_drop,List.take_append_drop]
theorem Vg {n:Nat} {e:TypeId} {cs:List Value}:∀ (N j:Nat) (xs:List (DataW Unit×List MemPlace)),(∀ cs d p,DataW.trod enc P w base spare held n e cs=some (d,p)->Z3 d=some cs)->cs.length=(j+N)*P.cellsOf e->xs.length=N ->
   (∀ (i:Nat),i<N->DataW.trod enc P w base spare held n e ((cs.drop ((j+i)*P.cellsOf e)).take (P.cellsOf e))=xs[i]?)->Ua (xs.map (·.1))=some (cs.drop (j*P.cellsOf e))
 | 0,j,xs,_,hl,hx,_=>by
  match xs,hx with
  | [],_=>rw[List.drop_of_length_le (by simp at hl;omega)];rfl
 | N+1,j,xs,hm,hl,hx,hf=>by
  match xs,hx with
  | x :: xs,hx =>
   have e0:=hm _ _ x.2 (hf 0 (Nat.zero_lt_succ _))
   have e1:=Vg N (j+1) xs hm (by rw[hl];congr 1;omega) (by simpa using hx) fun i hi=>by
    have:=hf (i+1) (by omega)
    rw[show j+(i+1)=j+1+i by omega]at this
    exact this
   rw[List.map_cons,U7 e0 e1,Nat.add_zero,show (j+1)*P.cellsOf e=j*P.cellsOf e+P.cellsOf e by rw[Nat.add_mul];omega,←List.drop_drop,List.take_append_drop]
theorem XS:∀ (n m:Nat) (t:TypeId) (cs:List Value) (d:DataW Unit) (p:List MemPlace),UZ P m t=true->DataW.trod enc P w base spare held n t cs=some (d,p)->Z3 d=some cs
 | 0,m,t,cs,d,p,_,h=>by simp[DataW.trod]at h
 | n+1,0,t,cs,d,p,hf,h=>by simp[UZ]at hf
 | n+1,m+1,t,cs,d,p,hf,h=>by
  unfold UZ at hf
  split at hf
  ·rename_i hu
   obtain ⟨b,rfl,e⟩:=DataW.trod_bool hu h
   cases e;rfl
  ·rename_i k hu
   obtain ⟨b,rfl,e,_⟩:=DataW.trod_int hu h
   cases e;rfl
  ·rename_i hu
   obtain ⟨s,rfl,e,_⟩:=DataW.trod_string hu h
   cases e
   rw[Z3]
  ·rename_i fs hu
   simp only[Bool.and_eq_true]at hf
   obtain ⟨xs,n',hn,e,hl,hx,hg⟩:=DataW.trod_struct hu h
   cases hn;cases e
   have hrec:∀ t cs d p,UZ P m t=true->DataW.trod enc P w base spare held n t cs=some (d,p)->Z3 d=some cs:=fun t cs d p=>XS n m t cs d p
   have:=Q4 (n:=n) (fun t cs d p=>XS n n t cs d p) hrec fs.toList 0 _ xs hf.1 hf.2 hl (by rw[hx];rfl) fun i f hif=>hg i f (by simpa using hif)
   rw[List.drop_zero]at this
   rw[Z3,this]
  ·rename_i N e hu
   simp only[Bool.and_eq_true,beq_iff_eq]at hf
   obtain ⟨xs,n',hn,e',hl,hx,hg⟩:=DataW.trod_array hu h
   cases hn;cases e'
   have:=Vg (n:=n) (e:=e) (cs:=cs) N 0 xs (fun cs d p=>XS n m e cs d p hf.1) (by rw[hl,hf.2,Nat.zero_add]) hx fun i hi=>by rw[Nat.zero_add];exact hg i hi
   rw[Nat.zero_mul,List.drop_zero]at this
   rw[Z3,this]
  ·cases hf
end
theorem G5 {W:World} {g:Nat}:∀ (vs:List Value) (o:Nat),(∀ (i:Nat) v,vs[i]?=some v->W.cell? ⟨g,o+i,none⟩=some v)->(vs.all fun v=>v.oneCell')=true->zM (NJ W) (vs.map zy) g o:=fun vs o h ho=>by
 refine z7 fun i c hc=>?_
 rw[List.getElem?_map,Option.map_eq_some_iff]at hc
 obtain ⟨v,hv,rfl⟩:=hc
 exact ⟨v,h i v hv,fun hf=>hf,jn _ _ v,List.all_eq_true.1 ho v (List.mem_of_getElem? hv)⟩
theorem GE {P:Program} {W:World} {l:List (String×DataW Unit)} (h:laidMetH P l W) (hp:(l.filter fun x=>x.2.handleName?.isSome) = []) {n:String} {d:DataW Unit} (hm:(n,d)∈l) {g:Nat} {t:TypeId} {m:Nat} {vs:List Value}
  (hg:P.globalNamed n=some g) (ht:(P.globals[g]?).map (·.type)=some t) (hf:UZ P m t=true) (hd:Z3 d=some vs) (ho:(vs.all fun v=>v.oneCell')=true):zM (NJ W) (vs.map zy) g 0:=by
 unfold laidMetH at h
 rw[hp]at h
 obtain ⟨g',t',cs,fuel,p,hg',ht',hvar,htr⟩:=Lib.laidMet.reads h hm
 rw[hg]at hg';cases hg'
 rw[ht]at ht';cases ht'
 have e:=XS _ _ _ _ _ _ hf htr
 have e':vs=cs.toList:=Option.some.inj (hd.symm.trans e)
 subst e'
 refine G5 _ 0 (fun i v hv=>?_) ho
 rw[World.var?_cell hg hvar,Nat.zero_add]
 simpa using hv
theorem Jh {P:Program} {W:World} {l:List (String×DataW Unit)} (h:laidMetH P l W) (hp:(l.filter fun x=>x.2.handleName?.isSome) = []) {n:String} {d:DataW Unit} (hm:(n,d)∈l) {g:Nat} {t:TypeId} {m:Nat} {vs:List Value}
  (hg:P.globalNamed n=some g) (ht:(P.globals[g]?).map (·.type)=some t) (hf:UZ P m t=true) (hd:Z3 d=some vs) (ho:(vs.all fun v=>v.oneCell')=true) :
  zM (NJ W) (vs.map zy) g 0/\(∃ us ty fl,(NJ W).w.heap[g]?=some (.cells us ty fl)/\us.size=(vs.map zy).length)/\∀ o,¬(NJ W).M g o:=by
 refine ⟨GE h hp hm hg ht hf hd ho,?_,fun o h=>h⟩
 unfold laidMetH at h
 rw[hp]at h
 obtain ⟨g',t',cs,fuel,p,hg',ht',hvar,htr⟩:=Lib.laidMet.reads h hm
 rw[hg]at hg';cases hg'
 rw[ht]at ht';cases ht'
 have e:=XS _ _ _ _ _ _ hf htr
 have e':vs=cs.toList:=Option.some.inj (hd.symm.trans e)
 subst e'
 unfold World.var? at hvar
 rw[hg]at hvar
 simp only[Option.bind_some]at hvar
 split at hvar
 ·rename_i cs' ty fl hh
  cases hvar
  exact ⟨_,_,_,hh,by simp⟩
 ·cases hvar
theorem Fun.glob {P:Program} {G G':zo} {f:FuncId} {args:List C} {r:C} {n:Nat} (h:Fun P G f args r n) (hG:∀ g cs,G g=some cs->G' g=some cs):Fun P G' f args r n:=
 ⟨h.1,fun R vs hg ha=>h.2 R vs (fun g cs e=>hg g cs (hG g cs e)) ha⟩
theorem Fun.glob0 {P:Program} {G':zo} {f:FuncId} {args:List C} {r:C} {n:Nat} (h:Fun P G0 f args r n):Fun P G' f args r n:=h.glob fun g cs e=>by cases e
end
section
open CA CB
open Go.RowKit
def zpl:List Value:=[.bool false,.bool false,.bool false,.bool false,.bool false,.bool false,.bool false,.bool true,.bool false,.bool true,.bool true,.bool false,.bool false,.bool false,.bool true,.bool false,.bool true,.bool false,.bool false,.bool true,.bool false,.bool true,.bool false,.bool false,.bool false,.bool false,.bool false,.bool true,.bool false,.bool false,.bool true,.bool false,.bool false]
def G1:zo:=fun g=>if g=4 then some (zpl.map zy) else none
theorem zow:G1 4=some [.sc (.bool false),.sc (.bool false),.sc (.bool false),.sc (.bool false),.sc (.bool false),.sc (.bool false),.sc (.bool false),.sc (.bool true),.sc (.bool false),.sc (.bool true),.sc (.bool true),.sc (.bool false),.sc (.bool false),.sc (.bool false),.sc (.bool true),.sc (.bool false),.sc (.bool true),.sc (.bool false),.sc (.bool false),.sc (.bool true),.sc (.bool false),.sc (.bool true),.sc (.bool false),.sc (.bool false),.sc (.bool false),.sc (.bool false),.sc (.bool false),.sc (.bool true),.sc (.bool false),.sc (.bool false),.sc (.bool true),.sc (.bool false),.sc (.bool false)]:=rfl
attribute [push_cast] zow
def Jr (p:List UInt8):Bool:=J2 p&&!decide (zi p = [])
theorem N4 (p:List UInt8) (hp:p.length<=1000000):Fun Tryz.prog G0 183 [.str p] (qu (Jr p)) 0:=by
 have h:=xk p hp
 unfold Yn at h
 cases hb:J2 p with
 | false =>
  rw[hb]at h
  refine fon Tryz.func183 ?_;dsimp only[Tryz.f183]
  push_cast -dsimp
  refine cl (h) ?_;push_cast -dsimp
  exact ⟨[],rfl,rfl,by push_cast -dsimp [zb,za,CLe,zd];simp[Jr,hb]⟩
 | true =>
  rw[hb,if_pos rfl]at h
  refine fon Tryz.func183 ?_;dsimp only[Tryz.f183]
  push_cast -dsimp
  refine cl (h) ?_;push_cast -dsimp
  refine ⟨[],rfl,rfl,?_⟩
  push_cast -dsimp [zb,za,CLe,zd]
  by_cases hn:zi p = []
  ·simp[Jr,hb,hn]
  ·have:=List.length_pos_iff.2 hn
   simp[Jr,hb,hn,this]
theorem zbD (l:List UInt8):Fun Tryz.prog G0 170 [.str l,.str [0]] (.sc (.int .i64 (Lib.indexByte l 0))) 0:=by
 refine Fun.wrap (by kernel_rfl) fun R vs h=>?_
 obtain ⟨v1,us1,rfl,h1,h⟩:=zf.1 h
 obtain ⟨v2,us2,rfl,h2,h⟩:=zf.1 h
 rw[zj]at h
 subst h
 rw[zQ]at h1 h2
 subst h1 h2
 refine (Tryz.strings_Index_one ⟨l.toArray⟩ 0 R.w).mono ?_
 rintro e w' ⟨rfl,rfl⟩
 exact ⟨_,rfl,Below.refl _ _,fun R' _=>zm.2 (by simp)⟩
theorem kX:∀ l:List UInt8,decide (0<=Lib.indexByte l 0)=l.any (fun b=>decide (b=0))/\-1<=Lib.indexByte l 0
 | []=>⟨rfl,by decide⟩
 | b :: l=>by
  obtain ⟨h1,h2⟩:=kX l
  unfold Lib.indexByte
  by_cases hb:b=0
  ·subst hb;simp
  ·have hb':(b==0)=false:=by simpa using hb
   rw[hb']
   simp only[Bool.false_eq_true,if_false,List.any_cons,hb,decide_false,Bool.false_or,←h1]
   split
   ·rename_i hm
    have:=beq_iff_eq.1 hm
    rw[this];simp
   ·rename_i hm
    have:¬Lib.indexByte l 0 = -1:=fun e=>hm (by rw[e];rfl)
    constructor
    ·rw[decide_eq_decide];omega
    ·omega
theorem G6 (l:List UInt8) (hl:l.length<=1000000):Fun Tryz.prog G0 212 [.str l,.str [0]] (qu (l.any fun b=>decide (b=0))) 0:=by
 have h:=(kX l).1
 refine fon Tryz.func212 ?_;dsimp only[Tryz.f212]
 push_cast -dsimp
 refine cl (zbD l) ?_;push_cast -dsimp
 exact dn (by push_cast -dsimp [zb,za,CLe,zd,h])
def UF (s:List UInt8):Bool:=!decide (s = [])&&decide (s.length<=4095)&&!(s.any fun b=>decide (b=0))
theorem zaz (s:List UInt8) (hs:s.length<=1000000):Fun Tryz.prog G0 184 [.str s] (qu (UF s)) 0:=by
 have h:=G6 s hs
 by_cases h1:s = []
 ·refine fon Tryz.func184 ?_;dsimp only[Tryz.f184]
  push_cast -dsimp [h1]
  exact ⟨[],rfl,rfl,by push_cast -dsimp [zb,za,CLe,zd];simp[UF,h1]⟩
 ·by_cases h2:s.length<=4095
  ·have h2':(s.length:Int)<=4095:=by omega
   refine fon Tryz.func184 ?_;dsimp only[Tryz.f184]
   push_cast -dsimp [h1,h2']
   refine cl (h) ?_;push_cast -dsimp
   exact ⟨[],rfl,rfl,by push_cast -dsimp [zb,za,CLe,zd];simp[UF,h1,h2]⟩
  ·have h2':¬(s.length:Int)<=4095:=by omega
   refine fon Tryz.func184 ?_;dsimp only[Tryz.f184]
   push_cast -dsimp [h1,h2']
   exact ⟨[],rfl,rfl,by push_cast -dsimp [zb,za,CLe,zd];simp[UF,h1,h2]⟩
end
end Go.Proofs.YtlkjpfiancahiaaGreatDoor.Vcg
section
namespace Go.Proofs.YtlkjpfiancahiaaGreatDoor.QuotePlain
abbrev Bs:=List UInt8
def good (c:UInt8):Bool:=decide (32<=c.toNat/\c.toNat<=126/\c.toNat≠34/\c.toNat≠92)
def zkv:Bs:=[48,49,50,51,52,53,54,55,56,57,97,98,99,100,101,102]
def Gw (n:Nat):UInt8:=zkv.getD n 0
def qb (c:UInt8):Bs:=if good c then [c] else [92,120,Gw (c.toNat / 16),Gw (c.toNat % 16)]
def mid (l:Bs):Bs:=l.flatMap qb
def qc (l:Bs):Bs:=34 :: (mid l++[34])
def zpq (l:Bs):Bool:=decide (l≠[])&&l.all fun c=>decide (33<=c.toNat/\c.toNat<=126/\c.toNat≠34)
def znt (c:UInt8):Nat:=(zkv.findIdx? (·==c)).getD 16
def zhv:Bs->UInt8×Nat
 | []=>(0,0)
 | c :: r =>
  if c≠92 then (if good c then (c,1) else (0,0))
  else match r with
   | x :: a :: b :: _=>if x=120/\znt a<16/\znt b<16/\good (UInt8.ofNat (znt a*16+znt b))=false then (UInt8.ofNat (znt a*16+znt b),4) else (0,0)
   | _=>(0,0)
theorem zf5 {p:UInt8->Bool} (h:(List.range 256).all (fun n=>p (UInt8.ofNat n))=true) (c:UInt8):p c=true:=by
 have h1:=List.all_eq_true.1 h c.toNat (List.mem_range.2 c.toNat_lt)
 simpa using h1
def zpR:Nat->Bs->Option (Bs×Nat)
 | 0,_=>none
 | _+1,[]=>none
 | f+1,c :: r=>if c=34 then some ([],1) else if (zhv (c :: r)).2=0 then none else (zpR f ((c :: r).drop (zhv (c :: r)).2)).map fun x=>((zhv (c :: r)).1 :: x.1,(zhv (c :: r)).2+x.2)
def body (l:Bs):Option (Bs×Nat):=zpR (l.length+1) l
def qtd:Bs->Option (Bs×Nat)
 | []=>none
 | c :: r=>if c=34 then (body r).map fun x=>(x.1,x.2+1) else none
def unq (l:Bs):Option Bs:=match qtd l with | some (t,n)=>if n=l.length then some t else none | none=>none
end Go.Proofs.YtlkjpfiancahiaaGreatDoor.QuotePlain
end
section
namespace Go.Proofs.YtlkjpfiancahiaaGreatDoor.QuotePlain
def okw (w:Bs):Bool:=(unq w).isSome||zpq w
def cut:Bs->Bs->Bool->Option (List Bs)
 | [],w,_=>if okw w then some [w] else none
 | c :: r,w,i=>if c=32/\i=false then (if okw w then (cut r [] i).map (w :: ·) else none) else cut r (w++[c]) (if c=34 then !i else i)
end Go.Proofs.YtlkjpfiancahiaaGreatDoor.QuotePlain
end
section
namespace Go.Proofs.YtlkjpfiancahiaaGreatDoor.QuotePlain
def F (q:List Bs):Bs:=q.flatMap (·++[32])
end Go.Proofs.YtlkjpfiancahiaaGreatDoor.QuotePlain
end
namespace Go.Proofs.YtlkjpfiancahiaaGreatDoor.Vcg
section
structure OpV where
 kind:Int
 slot:Int
 a:List UInt8
 b:List UInt8
 d:List UInt8
deriving DecidableEq,Inhabited
def Gx (k:Int):Bool:=decide (k=3)||decide (k=7)||decide (k=9)||decide (k=10)
def zqy (k:Int):Bool:=decide (k=2)||decide (k=3)||decide (k=5)||decide (k=6)
end
section
open CA CB
open Go.RowKit
def opL (o:OpV):List C:=[.sc (.int .i64 o.kind),.sc (.int .i64 o.slot),.str o.a,.str o.b,.str o.d]
def yZ (o:OpV):Bool:=decide (1<=o.kind)&&decide (o.kind<=10)&&Jr o.a&&(if Gx o.kind then decide (1<=o.slot)&&decide (o.slot<=1073741824) else decide (o.slot=0))&&(if zqy o.kind then Jr o.b else decide (o.b = []))
 && (if o.kind=4 then UF o.d else decide (o.d = []))&&(!decide (o.kind=6)||(!Hk o.a o.b&&!Hk o.b o.a))
def zhN (o:OpV):Prop:=o.a.length<=100000/\o.b.length<=100000/\o.d.length<=100000
theorem zfW (k s:Int) (a b d:List UInt8) (hs:zhN ⟨k,s,a,b,d⟩):Fun Tryz.prog G1 159 [.agg (opL ⟨k,s,a,b,d⟩)] (qu (yZ ⟨k,s,a,b,d⟩)) 0:=by
 have hs1:a.length<=100000:=hs.1
 have hs2:b.length<=100000:=hs.2.1
 have hs3:d.length<=100000:=hs.2.2
 have h1:=(N4 a (by omega)).glob0 (G':=G1)
 have h2:=(N4 b (by omega)).glob0 (G':=G1)
 have h3:=(zaz d (by omega)).glob0 (G':=G1)
 have h4:=(Ho a b (by omega)).glob0 (G':=G1)
 have h5:=(Ho b a (by omega)).glob0 (G':=G1)
 unfold opL
 by_cases hk1:k<1
 ·have:¬1<=k:=by omega
  refine fon Tryz.func159 ?_;dsimp only[Tryz.f159]
  push_cast -dsimp [hk1]
  exact ⟨[],rfl,rfl,by push_cast -dsimp [zb,za,CLe,zd];simp[yZ,this]⟩
 by_cases hk2:10<k
 ·have:¬k<=10:=by omega
  refine fon Tryz.func159 ?_;dsimp only[Tryz.f159]
  push_cast -dsimp [hk1,hk2]
  exact ⟨[],rfl,rfl,by push_cast -dsimp [zb,za,CLe,zd];simp[yZ,this]⟩
 cases hp:Jr a with
 | false =>
  rw[hp]at h1
  refine fon Tryz.func159 ?_;dsimp only[Tryz.f159]
  push_cast -dsimp [hk1,hk2]
  refine cl (h1) ?_;push_cast -dsimp
  exact ⟨[],rfl,rfl,by push_cast -dsimp [zb,za,CLe,zd];simp[yZ,hp]⟩
 | true =>
  rw[hp]at h1
  have hk:k=1∨k=2∨k=3∨k=4∨k=5∨k=6∨k=7∨k=8∨k=9∨k=10:=by omega
  clear hk1 hk2 hs hs1 hs2 hs3
  rcases hk with rfl | rfl | rfl | rfl | rfl | rfl | rfl | rfl | rfl | rfl
  all_goals
   refine fon Tryz.func159 ?_;dsimp only[Tryz.f159]
   push_cast -dsimp
   refine cl (h1) ?_;push_cast -dsimp
   repeat' (first
    | (refine call h2 ?_;push_cast -dsimp)
    | (refine zar h2 ?_;push_cast -dsimp)
    | (refine call h3 ?_;push_cast -dsimp)
    | (refine zar h3 ?_;push_cast -dsimp)
    | (refine call h4 ?_;push_cast -dsimp)
    | (refine zar h4 ?_;push_cast -dsimp)
    | (refine call h5 ?_;push_cast -dsimp)
    | (refine zar h5 ?_;push_cast -dsimp)
    | (refine br (fun h=>?_) (fun h=>?_)<;>push_cast -dsimp [h])
    | (refine ⟨[],rfl,rfl,?_⟩;push_cast -dsimp [zb,za,CLe,zd];clear h1 h2 h3 h4 h5;simp_all [yZ,Gx,zqy]<;>omega))
end
section
structure zV where
 dir:Int
 name:List UInt8
 ino:Int
deriving DecidableEq,Inhabited
structure zP where
 slot:Int
 ino:Int
 content:Bool
 data:List UInt8
deriving DecidableEq,Inhabited
structure qR where
 fs:FsV
 kept:List zP
 pool:List zn
deriving DecidableEq,Inhabited
def qd:zV:=⟨0,[],0⟩
def zmK:zP:=⟨0,0,false,[]⟩
abbrev XC (es:List z8):Prop:=qF Xr z8.name es
def Xl (n:List UInt8) (es:List z8):Bool:=J3 z8.name n es
def zG (n:List UInt8) (es:List z8):Int:=match jk z8.name n es with | some e=>e.ino | none=>0
def zg (n:List UInt8) (es:List z8):List z8:=JX z8.name n es
def zmN (n:List UInt8) (i:Int) (es:List z8):List z8:=Hj Xr z8.name ⟨n,i⟩ (JX z8.name n es)
def atW (xs:List zn):List (List UInt8)->zV->zV×Int
 | [],s=>(s,0)
 | n :: r,s=>if s.ino=0 then (qd,1) else if (ze s.ino xs).kind≠2 then (qd,3) else atW xs r ⟨(ze s.ino xs).ino,n,zG n (ze s.ino xs).es⟩
def atV (f:FsV) (p:List UInt8):zV×Int:=if J2 p then atW f.xs (zi p) ⟨0,[],1⟩ else (qd,9)
def zpE (f:FsV) (n b:Int):Bool:=decide (f.xs.length+n<=f.maxI)&&decide (qr f.xs+b<=f.maxB)
def jl (d:Int) (es:List z8->List z8) (xs:List zn):List zn:=jd { ze d xs with es:=es (ze d xs).es } xs
def zsW (f:FsV) (s:zV) (k:Int) (t:List UInt8):FsV:={ f with next:=f.next+1,xs:=jd ⟨f.next,k,1,t,if k=2 then s.dir else 0,[]⟩ (jl s.dir (zmN s.name f.next) f.xs) }
def zr2 (f:FsV) (s:zV) (k:Int) (t:List UInt8):FsV×Int:=
 if may s.name then (if zpE f 1 (if k=1 then (t.length:Int) else 0) then (zsW f s k t,0) else (f,8)) else (f,9)
def zk (f:FsV) (s:zV):FsV:=
 if (ze s.ino f.xs).links-1=0 then { f with xs:=zU s.ino (jl s.dir (zg s.name) f.xs) }
 else { f with xs:=jd { ze s.ino f.xs with links:=(ze s.ino f.xs).links-1 } (jl s.dir (zg s.name) f.xs) }
def zqY (f:FsV) (s:zV) (i:Int):FsV:={ f with xs:=jd { ze i f.xs with links:=(ze i f.xs).links+1 } (jl s.dir (zmN s.name i) f.xs) }
def zri (f:FsV) (a b:zV):FsV:=
 let g:=jl b.dir (zmN b.name a.ino) (jl a.dir (zg a.name) f.xs)
 if (ze a.ino g).kind=2 then { f with xs:=jd { ze a.ino g with parent:=b.dir } g } else { f with xs:=g }
def zqM (f:FsV) (i:Int) (t:List UInt8):FsV:={ f with xs:=jd { ze i f.xs with data:=t } f.xs }
def znd (f:FsV) (i:Int) (t:List UInt8):FsV×Int:=
 if zpE f 0 ((t.length:Int)-(ze i f.xs).data.length) then (zqM f i t,0) else (f,8)
def xx (n:Int) (ks:List zP):Bool:=J3 zP.slot n ks
def qv (k:zP) (ks:List zP):List zP:=Hj jN zP.slot k ks
def Js (w:qR) (n:Int) (s:zV):qR×Int:=
 if xx n w.kept then (w,13)
 else (⟨zk w.fs s,qv ⟨n,s.ino,false,[]⟩ w.kept,if (ze s.ino w.fs.xs).links=1 then jd { ze s.ino w.fs.xs with links:=0,parent:=0 } w.pool else w.pool⟩,0)
def Ub (w:qR) (n i:Int):qR×Int:=
 if xx n w.kept then (w,13) else ({ w with kept:=qv ⟨n,i,true,(ze i w.fs.xs).data⟩ w.kept },0)
def isV (f:FsV) (p:List UInt8) (want:Bool):zV×zn×Int:=
 let a:=atV f p
 (a.1,ze a.1.ino f.xs,if a.2≠0 then a.2 else if want&&!zt a.1.ino f.xs then 1 else if !want&&zt a.1.ino f.xs then 2 else 0)
def Xs (f:FsV) (p:List UInt8):zn×Int:=
 let a:=isV f p true
 (a.2.1,if a.2.2≠0 then a.2.2 else if a.2.1.kind=2 then 4 else if a.2.1.kind=3 then 9 else 0)
def zl3 (w:qR) (p:List UInt8) (k:Int) (t:List UInt8):qR×Int:=
 if (isV w.fs p false).2.2≠0 then (w,(isV w.fs p false).2.2) else ({ w with fs:=(zr2 w.fs (isV w.fs p false).1 k t).1 },(zr2 w.fs (isV w.fs p false).1 k t).2)
def zne (w:qR) (o:OpV):qR×Int:=
 if (Xs w.fs o.a).2≠0 then (w,(Xs w.fs o.a).2) else zl3 w o.b 1 (Xs w.fs o.a).1.data
def zil (w:qR) (o:OpV):qR×Int:=
 if (Xs w.fs o.a).2≠0 then (w,(Xs w.fs o.a).2)
 else if (Xs w.fs o.b).2≠0 then (w,(Xs w.fs o.b).2)
 else if (Xs w.fs o.a).1.ino=(Xs w.fs o.b).1.ino then (w,9)
 else if (Ub w o.slot (Xs w.fs o.b).1.ino).2≠0 then (w,(Ub w o.slot (Xs w.fs o.b).1.ino).2)
 else if (znd w.fs (Xs w.fs o.b).1.ino (Xs w.fs o.a).1.data).2≠0 then (w,(znd w.fs (Xs w.fs o.b).1.ino (Xs w.fs o.a).1.data).2)
 else ({ (Ub w o.slot (Xs w.fs o.b).1.ino).1 with fs:=(znd w.fs (Xs w.fs o.b).1.ino (Xs w.fs o.a).1.data).1 },0)
def zlJ (w:qR) (o:OpV):qR×Int:=
 let a:=isV w.fs o.a true
 if a.2.2≠0 then (w,a.2.2) else if a.2.1.kind=2 then (w,11)
 else if (isV w.fs o.b false).2.2≠0 then (w,(isV w.fs o.b false).2.2)
 else ({ w with fs:=zqY w.fs (isV w.fs o.b false).1 a.2.1.ino },0)
def znK (w:qR) (o:OpV):qR×Int:=
 if (isV w.fs o.a true).2.2≠0 then (w,(isV w.fs o.a true).2.2)
 else if (isV w.fs o.b false).2.2≠0 then (w,(isV w.fs o.b false).2.2)
 else ({ w with fs:=zri w.fs (isV w.fs o.a true).1 (isV w.fs o.b false).1 },0)
def qY (w:qR) (o:OpV):qR×Int:=
 let a:=isV w.fs o.a true
 if a.2.2≠0 then (w,a.2.2) else if a.2.1.es≠[] then (w,5) else Js w o.slot a.1
def doV (w:qR) (o:OpV):qR×Int:=
 if !yZ o then (w,12)
 else if o.kind=1 then zl3 w o.a 2 []
 else if o.kind=2 then zne w o
 else if o.kind=3 then zil w o
 else if o.kind=4 then zl3 w o.a 3 o.d
 else if o.kind=5 then zlJ w o
 else if o.kind=6 then znK w o
 else qY w o
def jH (ks:List zP):Int:=match ks.getLast? with | some k=>k.slot | none=>0
structure zH where
 w:qR
 ops:List OpV
 diags:List (List UInt8)
 status:Int
 slot:Int
deriving DecidableEq,Inhabited
def kl (w:qR):zH:=⟨w,[],[],0,jH w.kept⟩
def kD (d:zH) (o:OpV):OpV:={ o with slot:=if o.kind=3∨o.kind=7 then d.slot+1 else 0 }
def QG (d:zH) (o:OpV):zH×Int:=
 if 7<o.kind then (d,12)
 else if (doV d.w (kD d o)).2≠0 then (d,(doV d.w (kD d o)).2)
 else (⟨(doV d.w (kD d o)).1,d.ops++[kD d o],d.diags,d.status,if 0<(kD d o).slot then (kD d o).slot else d.slot⟩,0)
end
section
open CA CB
open Go.RowKit
theorem zaH (a b:List UInt8):Fun Tryz.prog G0 182 [.str a,.str b] (.sc (.int .i64 (Lib.compareBytes a b))) 0:=by
 refine Fun.wrap (by kernel_rfl) fun R vs h=>?_
 obtain ⟨v1,us1,rfl,h1,h⟩:=zf.1 h
 obtain ⟨v2,us2,rfl,h2,h⟩:=zf.1 h
 rw[zj]at h
 subst h
 rw[zQ]at h1 h2
 subst h1 h2
 refine (Tryz.strings_Compare ⟨a.toArray⟩ ⟨b.toArray⟩ R.w).mono ?_
 rintro e w' ⟨rfl,rfl⟩
 exact ⟨_,rfl,Below.refl _ _,fun R' _=>zm.2 (by simp)⟩
section
variable {G:zo}
theorem uh (e:z8) (n:List UInt8):Fun Tryz.prog G 181 [.agg (zj5 e),.str n] (.sc (.int .i64 (Lib.compareBytes e.name n))) 0:=by
 have h:=(zaH e.name n).glob0 (G':=G)
 refine fon Tryz.func181 ?_;dsimp only[Tryz.f181]
 push_cast -dsimp
 refine cl (h) ?_;push_cast -dsimp
 exact dn
theorem Nh (es:List z8) (n:List UInt8) (hl:es.length<=100000) (hR:qF Xr z8.name es) :
  Fun Tryz.prog G 180 [.sl 2 (z6 es),.str n,.clo (.func 181) [] []] (.tup [.sc (.int .i64 (qq Xr z8.name n es:Nat)),.sc (.bool (J3 z8.name n es))]) 0:=by
 refine fon Tryz.func180 ?_;dsimp only[Tryz.f180]
 push_cast -dsimp
 refine loop (fun p:Nat×Nat=>⟨[(0,.sl 2 (z6 es)),(1,.str n),(2,.clo (.func 181) [] []),(8,.sc (.int .i64 (es.length:Nat))),(9,.sc (.int .i64 p.1)),(10,.sc (.int .i64 p.2))],[],0,0⟩)
  (fun p=>p.1<=p.2/\p.2<=es.length/\(∀ t (h:t<es.length),t<p.1->(Xr).lt (z8.name es[t]) n=true)/\∀ t (h:t<es.length),p.2<=t->(Xr).lt (z8.name es[t]) n=false) (fun p=>p.2-p.1) (0,es.length) ⟨Nat.zero_le _,Nat.le_refl _,fun t _ h=>by (simp at h),fun t h h'=>by (dsimp only at h';omega)⟩ ?_ ?_
 ·exact wk (by push_cast -dsimp [zb,za,CLe,zd,List.length_map])
 ·rintro ⟨i,j⟩ ⟨h1,h2,h3,h4⟩
  dsimp only at h1 h2 h3 h4 ⊢
  by_cases h:i<j
  ·obtain ⟨m,hm⟩:∃ m,m=(i+j) / 2:=⟨_,rfl⟩
   have hmi:((i:Int)+(j:Int)) / 2=(m:Int):=by omega
   have hml:m<es.length:=by omega
   have hat:=Jd es m hml
   have hlt:=(zgh es[m].name n).to_iff
   push_cast -dsimp [h,hmi,hat]
   repeat refine an ?_
   refine cl ((uh es[m] n)) ?_;push_cast -dsimp
   cases hc:(Xr).lt (z8.name es[m]) n with
   | true =>
    have hcv:(Lib.compareBytes es[m].name n<0)=True:=eq_true (hlt.mpr hc)
    push_cast -dsimp [hcv]
    repeat refine an ?_
    refine ⟨(m+1,j),⟨by omega,h2,fun t ht hlt2=>?_,h4⟩,by dsimp only;omega,wk⟩
    dsimp only at hlt2
    rcases Nat.lt_or_ge t m with q | q
    ·exact (Xr).tr ((List.pairwise_iff_getElem.1 hR) t m ht hml q) hc
    ·have:t=m:=by omega
     subst this;exact hc
   | false =>
    have hcv:(Lib.compareBytes es[m].name n<0)=False:=eq_false (fun e=>by have h7:(Xr).lt (z8.name es[m]) n=true:=hlt.mp e;rw[hc]at h7;cases h7)
    push_cast -dsimp [hcv]
    repeat refine an ?_
    refine ⟨(i,m),⟨by omega,by omega,h3,fun t ht hge=>?_⟩,by dsimp only;omega,wk⟩
    dsimp only at hge
    rcases Nat.lt_or_ge m t with q | q
    ·cases h9:(Xr).lt (z8.name es[t]) n with
     | false=>rfl
     | true=>have:=(Xr).tr ((List.pairwise_iff_getElem.1 hR) m t hml ht q) h9;rw[hc]at this;cases this
    ·have:t=m:=by omega
     subst this;exact hc
  ·have hij:i=j:=by omega
   subst hij
   have hrk:=Q9 (o:=Xr) (key:=z8.name) n es i h2 h3 h4
   push_cast -dsimp [h]
   refine br (fun hx=>?_) (fun hx=>?_)
   ·have hx:i<es.length:=by simpa using hx
    have hat:=Jd es i hx
    have hh:=vt n hR hrk hx
    push_cast -dsimp [hx,hat]
    repeat refine an ?_
    refine cl ((uh es[i] n)) ?_;push_cast -dsimp
    have hcv:decide (Lib.compareBytes es[i].name n=0)=J3 z8.name n es:=by
     rw[hh]
     exact decide_eq_decide.2 (zgq es[i].name n).to_iff
    push_cast -dsimp [hcv]
    exact dn (by push_cast -dsimp [zb,za,CLe,zd,hrk])
   ·have hx:¬i<es.length:=by simpa using hx
    have hh:=GA n hR (by omega)
    push_cast -dsimp [hx]
    exact dn (by push_cast -dsimp [zb,za,CLe,zd,hrk,hh])
theorem zcG (es:List z8) (n:List UInt8) (hl:es.length<=100000) (hR:XC es):Fun Tryz.prog G 154 [.sl 2 (z6 es),.str n] (.tup [.sc (.int .i64 (qq Xr z8.name n es:Nat)),.sc (.bool (J3 z8.name n es))]) 0:=by
 refine fon Tryz.func154 ?_;dsimp only[Tryz.f154]
 push_cast -dsimp
 refine cl (Nh es n hl hR) ?_;push_cast -dsimp
 exact dn
theorem xv (es:List z8) (n:List UInt8) (hl:es.length<=100000) (hR:XC es):Fun Tryz.prog G 111 [.sl 2 (z6 es),.str n] (.tup [.sc (.int .i64 (zG n es)),.sc (.bool (Xl n es))]) 0:=by
 obtain ⟨_,_,h3,h4⟩:=ko n hR
 have h:=zcG (G:=G) es n hl hR
 cases hh:J3 z8.name n es with
 | false =>
  have hf:zG n es=0:=by unfold zG;rw[(h4 hh).1]
  have he:Xl n es=false:=hh
  rw[hh]at h
  refine fon Tryz.func111 ?_;dsimp only[Tryz.f111]
  push_cast -dsimp
  refine cl (h) ?_;push_cast -dsimp
  exact dn (by push_cast -dsimp [zb,za,CLe,zd,hf,he])
 | true =>
  obtain ⟨hlt,_,g2,_⟩:=h3 hh
  have hf:zG n es=es[qq Xr z8.name n es].ino:=by unfold zG;rw[g2]
  have he:Xl n es=true:=hh
  have hat:=Jd es _ hlt
  rw[hh]at h
  refine fon Tryz.func111 ?_;dsimp only[Tryz.f111]
  push_cast -dsimp
  refine cl (h) ?_;push_cast -dsimp [hat]
  repeat refine an ?_
  exact dn (by push_cast -dsimp [zb,za,CLe,zd,hf,he])
end
end
section
open CA CB
open Go.RowKit
section
variable {G:zo}
theorem GG {es:List z8}:∀ r∈z6 es,r.length=2:=fun r hr=>by
 obtain ⟨x,_,rfl⟩:=List.mem_map.1 hr;rfl
theorem zc0 {es:List z8}:ji (z6 es):=fun r hr=>by
 obtain ⟨x,_,rfl⟩:=List.mem_map.1 hr;rfl
end
end
section
open CA CB
open Go.RowKit
section
variable {G:zo}
theorem zkJ {A B Z:List C} {r k:Nat} (hA:A.length=r*2) (hB:B.length=(k-r)*2) (hZ:Z.length=k*2) (hr:r<=k):spl (A++Z.drop (r*2)) (r*2) (B.take ((k-r)*2))=A++B:=by
 unfold spl
 rw[List.take_of_length_le (l:=B) (by omega),List.take_append_of_le_length (by omega),List.take_of_length_le (l:=A) (by omega),List.drop_of_length_le (l:=A++Z.drop (r*2)) (by rw[List.length_append,List.length_drop];omega),List.append_nil]
theorem NT (es:List z8) (n:List UInt8) (hl:es.length<=90000) (hR:XC es) (hh:J3 z8.name n es=true) :
  Fun Tryz.prog G 245 [.sl 2 (z6 es),.str n] (.own 0 100 2 (z6 (zg n es))) 1:=by
 obtain ⟨_,_,h3,h4⟩:=ko n hR
 have hll:(z6 es).length=es.length:=List.length_map ..
 have hat:=zcG (G:=G) es n (by omega) hR
 have hrl:=VN (o:=Xr) (key:=z8.name) n es
 rw[hh]at hat
 obtain ⟨hlt,g1,g2,g3,g4⟩:=h3 hh
 have hw:zg n es=es.take (qq Xr z8.name n es)++es.drop (qq Xr z8.name n es+1):=g3
 obtain ⟨k,hk⟩:∃ k,es.length=k+1:=⟨es.length-1,by omega⟩
 have hkc:(z6 es).length=k+1:=by omega
 have hn:((z6 es).length:Int)-1=(k:Int):=by omega
 have hwl:(zg n es).length=k:=by rw[hw];simp;omega
 generalize qq Xr z8.name n es=r at *
 have hm:min r k=r:=by omega
 rcases Nat.eq_zero_or_pos k with h1 | h1
 ·subst h1
  obtain rfl:r=0:=by omega
  have hn:((z6 es).length:Int)-1=0:=hn
  have hwe:zg n es = []:=List.length_eq_zero_iff.1 hwl
  refine fof (fun i=>if i=5 then Xv [(0,.pure),(1,.pure),(2,.pure),(3,.pure),(4,.pure),(7,.pure),(8,.pure),(9,.pure),(10,.pure),(5,.flt [0,5,6,7,8]),(6,.pure),(11,.bar)] else []) Tryz.func245 ?_;dsimp only[Tryz.f245]
  push_cast -dsimp
  refine cl (hat) ?_;push_cast -dsimp [hn,Int.toNat_zero]
  refine ⟨by omega,by omega,zpW (m:=0) (xs:=[]) zdD ME rfl rfl (fun _ _ _ _ _ h=>by cases h) rfl ?_⟩
  push_cast -dsimp
  have hd:(z6 es).drop 1 = []:=List.drop_of_length_le (by omega)
  rw[hd]
  refine ⟨⟨by split<;>first | omega | trivial,by split<;>first | omega | trivial⟩,zpW (m:=0) (xs:=[]) zdD ME rfl rfl (fun _ _ _ _ _ h=>by cases h) rfl ?_⟩
  push_cast -dsimp
  exact ⟨[.inl 0],rfl,rfl,by push_cast -dsimp [zb,za,CLe,zd,hwe]⟩
 ·refine foF (fun i=>if i=5 then Xv [(0,.pure),(1,.pure),(2,.pure),(3,.pure),(4,.pure),(7,.pure),(8,.pure),(9,.pure),(10,.pure),(5,.flt [0,5,6,7,8]),(6,.pure),(11,.bar)] else if i=1000000+51 then [true,true] else []) Tryz.func245 ?_;dsimp only[Tryz.f245]
  push_cast -dsimp
  refine cl (hat) ?_;push_cast -dsimp [hn,Int.toNat_natCast]
  have hA:((z6 es).take r).flatten.length=r*2:=by
   rw[zN (k:=2) fun x hx=>GG x (List.mem_of_mem_take hx),List.length_take,hkc,Nat.min_eq_left (by omega)]
  have hB:((z6 es).drop (r+1)).flatten.length=(k-r)*2:=by
   rw[zN (k:=2) fun x hx=>GG x (List.mem_of_mem_drop hx),List.length_drop,hkc];omega
  have hZ:((List.replicate k [C.str [],C.sc (.int .i64 0)]).flatten).length=k*2:=by simp
  refine ⟨⟨by omega,by omega⟩,by omega,by omega,by omega,by omega,⟨by omega,by omega⟩,⟨by omega,by omega⟩,⟨by omega,by omega⟩,zlf (m:=r) (xs:=((z6 es).take r).flatten) zdD ME (by simp[C.xs?,C.rows?,hkc];omega) rfl hA (by rw[hZ];omega) ?_⟩
  rw[hm]
  push_cast -dsimp
  have hS:spl (List.replicate k [C.str [],C.sc (.int .i64 0)]).flatten 0 (((z6 es).take r).flatten.take (r*2))=((z6 es).take r).flatten++((List.replicate k [C.str [],C.sc (.int .i64 0)]).flatten).drop (r*2):=by
   unfold spl
   rw[List.take_zero,List.nil_append,Nat.zero_add,List.take_of_length_le (by omega),hA]
  have hm2:min (k-r) (k-r)=k-r:=Nat.min_self _
  rw[hS]
  refine ⟨⟨by split<;>first | exact ⟨by omega,by omega⟩ | trivial,by split<;>first | exact ⟨by omega,by omega⟩ | trivial,by split<;>first | exact ⟨by omega,by omega⟩ | trivial⟩,Nat.le_refl _,⟨by omega,by omega⟩,zlf (m:=k-r) (xs:=((z6 es).drop (r+1)).flatten) zdD ME (by simp[C.xs?,C.rows?,hkc]) rfl hB (by rw[List.length_append,List.length_drop,hA,hZ];omega) ?_⟩
  rw[hm2]
  push_cast -dsimp
  have hwc:(z6 (zg n es)).length=k:=(List.length_map ..).trans hwl
  have hF:spl (((z6 es).take r).flatten++((List.replicate k [C.str [],C.sc (.int .i64 0)]).flatten).drop (r*2)) (r*2) (((z6 es).drop (r+1)).flatten.take ((k-r)*2))=qH 2 (z6 (zg n es)) k:=by
   rw[zkJ hA hB hZ (by omega)]
   unfold qH
   rw[hwc,Nat.sub_self,Nat.zero_mul,hw]
   simp
  rw[hF]
  refine ⟨[(0,100,2,z6 (zg n es),k)],[.inl 0],zB rfl h1 (by omega) (by omega) GG zc0,rfl,rfl,?_⟩
  push_cast -dsimp [zb,za,CLe,zd,hwc]
end
end
section
theorem Q7 (n:Int) (xs:List zn):zt n xs=(QF n xs).isSome:=by
 unfold zt QF
 induction xs with
 | nil=>rfl
 | cons y r ih =>
  rw[List.any_cons,List.find?_cons]
  cases h:(y.ino==n) with
  | true=>rfl
  | false=>rw[Bool.false_or,ih]
theorem zjH {n:Int} {xs:List zn} {x:zn} (h:QF n xs=some x):x.ino=n/\x∈xs:=by
 unfold QF at h
 have h1:=List.find?_some h
 exact ⟨by simpa using h1,List.mem_of_find?_eq_some h⟩
theorem zai (n:Int) (x:zn):∀ xs:List zn,(∀ z∈xs,z.ino≠x.ino)->QF n (ZE x xs)=if x.ino=n then some x else QF n xs
 | [],_=>by
  unfold ZE QF
  by_cases h:x.ino=n<;>simp[h]
 | y :: r,hn=>by
  have hy:=hn y List.mem_cons_self
  have ih:=zai n x r fun z hz=>hn z (List.mem_cons_of_mem _ hz)
  unfold QF at ih ⊢
  unfold ZE
  split
  ·by_cases h:x.ino=n
   ·simp[h]
   ·simp[h,List.find?_cons]
  ·by_cases h:x.ino=n
   ·rw[if_pos h]at ih ⊢
    have hyn:(y.ino==n)=false:=by simp;omega
    rw[List.find?_cons,hyn];exact ih
   ·rw[if_neg h]at ih ⊢
    rw[List.find?_cons,List.find?_cons,ih]
theorem Zp (n m:Int):∀ xs:List zn,QF n (zU m xs)=if n=m then none else QF n xs
 | []=>by unfold QF zU;simp
 | y :: r=>by
  have ih:=Zp n m r
  by_cases hy:y.ino=m
  ·rw[Jl hy,ih]
   by_cases h:n=m
   ·rw[if_pos h,if_pos h]
   ·rw[if_neg h,if_neg h]
    have hyn:(y.ino==n)=false:=by simp;omega
    unfold QF
    rw[List.find?_cons,hyn]
  ·rw[Ju hy]
   unfold QF at ih ⊢
   rw[List.find?_cons,List.find?_cons,ih]
   by_cases h:n=m
   ·have hyn:(y.ino==n)=false:=by simp;omega
    simp only[hyn,if_pos h]
   ·simp only[if_neg h]
theorem zmk {n:Int} {xs:List zn}:∀ z∈zU n xs,z.ino≠n:=fun z hz=>by
 unfold zU at hz
 simpa using (List.mem_filter.1 hz).2
theorem vQ (n:Int) (x:zn) (xs:List zn):QF n (jd x xs)=if x.ino=n then some x else QF n xs:=by
 unfold jd
 rw[zai n x _ zmk,Zp]
 by_cases h:x.ino=n
 ·rw[if_pos h,if_pos h]
 ·rw[if_neg h,if_neg h,if_neg (fun e=>h e.symm)]
theorem V5 (n:Int) (x:zn) (xs:List zn):zt n (jd x xs)=(decide (x.ino=n)||zt n xs):=by
 rw[Q7,vQ,Q7]
 by_cases h:x.ino=n<;>simp[h]
theorem YD (n m:Int) (xs:List zn):zt n (zU m xs)=(!decide (n=m)&&zt n xs):=by
 rw[Q7,Zp,Q7]
 by_cases h:n=m<;>simp[h]
def J1 (g:zn->Nat) (xs:List zn):Nat:=(xs.map g).sum
theorem XO (g:zn->Nat) {n:Int}:∀ {xs:List zn},qh xs->J1 g xs=J1 g (zU n xs)+(match QF n xs with | some x=>g x | none=>0)
 | [],_=>rfl
 | y :: r,hR=>by
  obtain ⟨h1,h2⟩:=j9.1 hR
  have ih:=XO g (n:=n) h2
  unfold J1 at ih ⊢
  by_cases hy:y.ino=n
  ·have hb:zt n r=false:=UO fun z hz=>by have:=h1 z hz;omega
   have hg:QF n (y :: r)=some y:=by unfold QF;rw[List.find?_cons_of_pos (by simpa using hy)]
   rw[hg,Jl hy,QV hb]
   simp;omega
  ·have hg:QF n (y :: r)=QF n r:=by unfold QF;rw[List.find?_cons_of_neg (by simpa using hy)]
   rw[hg,Ju hy]
   simp only[List.map_cons,List.sum_cons]
   omega
theorem zaj (g:zn->Nat) (x:zn):∀ xs:List zn,J1 g (ZE x xs)=J1 g xs+g x
 | []=>by unfold ZE J1;simp
 | y :: r=>by
  have ih:=zaj g x r
  unfold J1 at ih ⊢
  unfold ZE
  split
  ·simp;omega
  ·simp only[List.map_cons,List.sum_cons];omega
theorem VT (g:zn->Nat) {x:zn} {xs:List zn} (hR:qh xs):J1 g (jd x xs)+(match QF x.ino xs with | some y=>g y | none=>0)=J1 g xs+g x:=by
 unfold jd
 rw[zaj,XO g (n:=x.ino) hR]
 omega
end
section
def HA (n:Int) (x:zn):Nat:=(x.es.filter fun e=>decide (e.ino=n)).length
def VK (n:Int) (xs:List zn):Nat:=J1 (HA n) xs
structure FsI (f:FsV):Prop where
 rises:qh f.xs
 ino:∀ x∈f.xs,1<=x.ino/\x.ino<f.next
 kind:∀ x∈f.xs,x.kind=1∨x.kind=2∨x.kind=3
 es:∀ x∈f.xs,XC x.es
 file:∀ x∈f.xs,x.kind≠2->x.es = []
 led:∀ x∈f.xs,∀ e∈x.es,zt e.ino f.xs=true
 links:∀ x∈f.xs,x.links=(VK x.ino f.xs:Int)
 root:zt 1 f.xs=true
 base:(ze 1 f.xs).kind=2
 bare:VK 1 f.xs=0
theorem zh {n:Int} {xs:List zn} (h:zt n xs=true):QF n xs=some (ze n xs)/\ze n xs∈xs/\(ze n xs).ino=n:=by
 rw[Q7]at h
 obtain ⟨x,hx⟩:=Option.isSome_iff_exists.1 h
 have e:ze n xs=x:=by unfold ze;rw[hx];rfl
 obtain ⟨h1,h2⟩:=zjH hx
 rw[e]
 exact ⟨hx,h2,h1⟩
theorem Jk {n:Int} {xs:List zn} (h:zt n xs=false):QF n xs=none/\ze n xs=kH:=by
 have h1:=GL h
 exact ⟨h1,by unfold ze;rw[h1];rfl⟩
theorem YS (n:Int) (x:zn) (xs:List zn):ze n (jd x xs)=if x.ino=n then x else ze n xs:=by
 unfold ze
 rw[vQ]
 split<;>rfl
theorem Zd (n m:Int) (xs:List zn):ze n (zU m xs)=if n=m then kH else ze n xs:=by
 unfold ze
 rw[Zp]
 split<;>rfl
theorem Y4 {x z:zn} {xs:List zn}:z∈jd x xs↔z=x∨(z∈xs/\z.ino≠x.ino):=by
 unfold jd
 rw[HS]
 unfold zU
 simp
theorem YM {n:Int} {z:zn} {xs:List zn}:z∈zU n xs↔z∈xs/\z.ino≠n:=by
 unfold zU
 simp
theorem Yh {x:zn} {xs:List zn} (h:x∈xs):zt x.ino xs=true:=by
 unfold zt
 exact List.any_eq_true.2 ⟨x,h,by simp⟩
theorem MI {α κ:Type} [DecidableEq κ] {o:zl9 κ} {key:α->κ} (p:α->Bool) {n:κ} {xs:List α} (hR:qF o key xs) {e:α} (h:jk key n xs=some e):(xs.filter p).length=((JX key n xs).filter p).length+if p e then 1 else 0:=by
 obtain ⟨_,_,h3,h4⟩:=ko n hR
 cases hh:J3 key n xs with
 | false=>rw[(h4 hh).1]at h;cases h
 | true =>
  obtain ⟨g,_,g2,g3,_⟩:=h3 hh
  rw[g2]at h
  simp only[Option.some.injEq]at h
  have e0:xs=xs.take (qq o key n xs)++e :: xs.drop (qq o key n xs+1):=by
   rw[←h,←List.drop_eq_getElem_cons g,List.take_append_drop]
  rw[g3]
  conv=>lhs;rw[e0]
  rw[List.filter_append,List.filter_append,List.filter_cons]
  cases hp:p e<;>simp<;>omega
theorem qt {α κ:Type} [DecidableEq κ] {key:α->κ} {n:κ} {xs:List α} {e:α} (h:jk key n xs=some e):key e=n/\e∈xs:=by
 unfold jk at h
 exact ⟨by have:=List.find?_some h;simpa using this,List.mem_of_find?_eq_some h⟩
theorem qP {α κ:Type} [DecidableEq κ] {key:α->κ} {n:κ} {xs:List α}:J3 key n xs=(jk key n xs).isSome:=by
 unfold J3 jk
 induction xs with
 | nil=>rfl
 | cons y r ih =>
  rw[List.any_cons,List.find?_cons]
  cases h:decide (key y=n) with
  | true=>rfl
  | false=>rw[Bool.false_or,ih]
theorem zfg {n m:Int} {x:zn} {xs:List zn} (hR:qh xs) (hh:zt n xs=true) (hx:x.ino=n):VK m (jd x xs)+HA m (ze n xs)=VK m xs+HA m x:=by
 have h:=VT (HA m) (x:=x) hR
 rw[hx,(zh hh).1]at h
 exact h
theorem zgY {n m:Int} {xs:List zn} (hR:qh xs) (hh:zt n xs=true):VK m xs=VK m (zU n xs)+HA m (ze n xs):=by
 have h:=XO (HA m) (n:=n) hR
 rw[(zh hh).1]at h
 exact h
theorem uy {n:Int} {xs:List zn} (h:VK n xs=0):∀ x∈xs,∀ e∈x.es,e.ino≠n:=fun x hx e he hn=>by
 unfold VK J1 at h
 rw[List.sum_eq_zero_iff_forall_eq_nat]at h
 have:=h _ (List.mem_map_of_mem hx)
 unfold HA at this
 rw[List.length_eq_zero_iff,List.filter_eq_nil_iff]at this
 exact this e he (by simpa using hn)
theorem Ni {m i:Int} {n:List UInt8} {es:List z8} {x:zn} (hR:XC es) (h:jk z8.name n es=some ⟨n,i⟩):HA m { x with es:=es }=HA m { x with es:=zg n es }+if i=m then 1 else 0:=by
 unfold zg HA
 have:=MI (fun e:z8=>decide (e.ino=m)) hR h
 simp only at this ⊢
 rw[this]
 by_cases hi:i=m<;>simp[hi]
theorem XZ {n:List UInt8} {es:List z8} (h:Xl n es=true):jk z8.name n es=some ⟨n,zG n es⟩:=by
 unfold Xl at h
 rw[qP]at h
 obtain ⟨e,he⟩:=Option.isSome_iff_exists.1 h
 have h1:=(qt he).1
 unfold zG
 rw[he]
 cases e with
 | mk a b=>simp at h1 ⊢;exact h1
theorem QW {n:List UInt8} {es:List z8} (h:XC es):XC (zg n es):=vL n h
theorem jI {n:List UInt8} {es:List z8} {e:z8} (h:e∈zg n es):e∈es/\e.name≠n:=zer.1 h
end
section
structure zr7 (f:FsV) (s:zV):Prop where
 has:zt s.dir f.xs=true
 kind:(ze s.dir f.xs).kind=2
 free:Xl s.name (ze s.dir f.xs).es=false
structure zI (f:FsV) (s:zV):Prop where
 has:zt s.dir f.xs=true
 kind:(ze s.dir f.xs).kind=2
 there:jk z8.name s.name (ze s.dir f.xs).es=some ⟨s.name,s.ino⟩
theorem zI.ino {f:FsV} {s:zV} (hf:FsI f) (h:zI f s):zt s.ino f.xs=true:=by
 have:=hf.led _ (zh h.has).2.1 ⟨s.name,s.ino⟩ (qt h.there).2
 exact this
abbrev jQ (d:zn) (es:List z8):zn:={ d with es:=es }
theorem QH {xs:List zn} {n:Int} {F:List z8->List z8} (hh:zt n xs=true) {z:zn}:z∈jl n F xs↔z=jQ (ze n xs) (F (ze n xs).es)∨(z∈xs/\z.ino≠n):=by
 unfold jl
 rw[Y4]
 show z=jQ _ _∨(z∈xs/\z.ino≠(ze n xs).ino)↔_
 rw[(zh hh).2.2]
theorem JP {xs:List zn} {n m:Int} {F:List z8->List z8} (hh:zt n xs=true):zt m (jl n F xs)=zt m xs:=by
 unfold jl
 rw[V5]
 show (decide ((ze n xs).ino=m)||zt m xs)=_
 rw[(zh hh).2.2]
 by_cases h:n=m
 ·subst h;rw[hh];simp
 ·simp[h]
theorem Y3 {xs:List zn} {n m:Int} {F:List z8->List z8} (hh:zt n xs=true):ze m (jl n F xs)=if n=m then jQ (ze n xs) (F (ze n xs).es) else ze m xs:=by
 unfold jl
 rw[YS]
 show (if (ze n xs).ino=m then _ else _)=_
 rw[(zh hh).2.2]
theorem zl2 {xs:List zn} {n m:Int} {F:List z8->List z8} (hR:qh xs) (hh:zt n xs=true):VK m (jl n F xs)+HA m (ze n xs)=VK m xs+HA m (jQ (ze n xs) (F (ze n xs).es)):=
 zfg hR hh (zh hh).2.2
theorem zlR {f:FsV} (hf:FsI f):1<f.next:=by
 have:=(hf.ino _ (zh hf.root).2.1).2
 rw[(zh hf.root).2.2]at this
 exact this
theorem Hn {f:FsV} (hf:FsI f) {s:zV} (hs:zI f s):s.ino≠1:=fun e =>
 uy hf.bare _ (zh hs.has).2.1 _ (qt hs.there).2 e
theorem Uw {f:FsV} (hf:FsI f) {s:zV} (hs:zI f s) (he:(ze s.ino f.xs).es = []):FsI (zk f s):=by
 have hi:=zI.ino hf hs
 have hd:=zh hs.has
 have hx:=zh hi
 have hr:=Hn hf hs
 have hne:s.dir≠s.ino:=fun e=>by
  have:=(qt hs.there).2
  rw[e,he]at this
  cases this
 have hR1:qh (jl s.dir (zg s.name) f.xs):=Jn hf.rises
 have hi1:zt s.ino (jl s.dir (zg s.name) f.xs)=true:=by rw[JP hs.has];exact hi
 have hg1:ze s.ino (jl s.dir (zg s.name) f.xs)=ze s.ino f.xs:=by rw[Y3 hs.has,if_neg hne]
 have hc1:∀ m,VK m (jl s.dir (zg s.name) f.xs)+(if s.ino=m then 1 else 0)=VK m f.xs:=fun m=>by
  have hc:=zl2 (m:=m) (F:=zg s.name) hf.rises hs.has
  have hw:HA m (ze s.dir f.xs)=HA m (jQ (ze s.dir f.xs) (zg s.name (ze s.dir f.xs).es))+if s.ino=m then 1 else 0:=Ni (m:=m) (i:=s.ino) (x:=ze s.dir f.xs) (hf.es (ze s.dir f.xs) hd.2.1) hs.there
  omega
 have hlk:=hf.links (ze s.ino f.xs) hx.2.1
 rw[hx.2.2]at hlk
 have hci:=hc1 s.ino
 rw[if_pos rfl]at hci
 have hz:∀ m,HA m (ze s.ino f.xs)=0:=fun m=>by unfold HA;rw[he];rfl
 unfold zk
 by_cases hl:(ze s.ino f.xs).links-1=0
 ·rw[if_pos hl]
  have hc0:VK s.ino (jl s.dir (zg s.name) f.xs)=0:=by omega
  have hcnt:∀ m,VK m (zU s.ino (jl s.dir (zg s.name) f.xs))=VK m (jl s.dir (zg s.name) f.xs):=fun m=>by
   have:=zgY (m:=m) hR1 hi1
   rw[hg1,hz]at this
   omega
  have hmem:∀ {z:zn},z∈zU s.ino (jl s.dir (zg s.name) f.xs)->(z=jQ (ze s.dir f.xs) (zg s.name (ze s.dir f.xs).es)∨(z∈f.xs/\z.ino≠s.dir))/\z.ino≠s.ino:=fun {z} hz=>by
   obtain ⟨hz,hzi⟩:=YM.1 hz
   exact ⟨(QH hs.has).1 hz,hzi⟩
  have hin:∀ {z:zn},z∈zU s.ino (jl s.dir (zg s.name) f.xs)->z∈jl s.dir (zg s.name) f.xs:=fun {z} hz=>(YM.1 hz).1
  refine ⟨kT hR1,fun x hx'=>?_,fun x hx'=>?_,fun x hx'=>?_,fun x hx' hk2=>?_,fun x hx' e hee=>?_,fun x hx'=>?_,?_,?_,?_⟩
  ·rcases hmem hx' with ⟨rfl | ⟨h,_⟩,_⟩
   ·exact hf.ino (ze s.dir f.xs) hd.2.1
   ·exact hf.ino _ h
  ·rcases hmem hx' with ⟨rfl | ⟨h,_⟩,_⟩
   ·exact hf.kind (ze s.dir f.xs) hd.2.1
   ·exact hf.kind _ h
  ·rcases hmem hx' with ⟨rfl | ⟨h,_⟩,_⟩
   ·exact QW (hf.es (ze s.dir f.xs) hd.2.1)
   ·exact hf.es _ h
  ·rcases hmem hx' with ⟨rfl | ⟨h,_⟩,_⟩
   ·exact absurd hs.kind hk2
   ·exact hf.file _ h hk2
  ·show zt e.ino (zU _ _)=true
   rw[YD,JP hs.has]
   have h1:e.ino≠s.ino:=uy hc0 x (hin hx') e hee
   rw[decide_eq_false h1]
   show zt e.ino f.xs=true
   rcases hmem hx' with ⟨rfl | ⟨h,_⟩,_⟩
   ·exact hf.led (ze s.dir f.xs) hd.2.1 e (jI hee).1
   ·exact hf.led _ h e hee
  ·show x.links=((VK x.ino (zU _ _):Nat):Int)
   rw[hcnt]
   obtain ⟨h1,h2⟩:=hmem hx'
   have h3:=hc1 x.ino
   rw[if_neg fun e=>h2 e.symm]at h3
   have h4:x.links=(VK x.ino f.xs:Int):=by
    rcases h1 with rfl | ⟨h,_⟩
    ·exact hf.links (ze s.dir f.xs) hd.2.1
    ·exact hf.links _ h
   omega
  ·show zt 1 (zU _ _)=true
   rw[YD,JP hs.has,hf.root,decide_eq_false fun e=>hr e.symm];rfl
  ·show (ze 1 (zU _ _)).kind=2
   rw[Zd,if_neg fun e=>hr e.symm,Y3 hs.has]
   split
   ·exact hs.kind
   ·exact hf.base
  ·show VK 1 (zU _ _)=0
   rw[hcnt]
   have:=hc1 1
   have:=hf.bare
   omega
 ·rw[if_neg hl]
  have hmem:∀ {z:zn},z∈jd { ze s.ino f.xs with links:=(ze s.ino f.xs).links-1 } (jl s.dir (zg s.name) f.xs)->z = { ze s.ino f.xs with links:=(ze s.ino f.xs).links-1 }∨z=jQ (ze s.dir f.xs) (zg s.name (ze s.dir f.xs).es)∨(z∈f.xs/\z.ino≠s.dir/\z.ino≠s.ino):=fun {z} hz=>by
   rcases Y4.1 hz with rfl | ⟨hz,hzi⟩
   ·exact .inl rfl
   ·have hzi:z.ino≠(ze s.ino f.xs).ino:=hzi
    rw[hx.2.2]at hzi
    rcases (QH hs.has).1 hz with rfl | ⟨hz,hzd⟩
    ·exact .inr (.inl rfl)
    ·exact .inr (.inr ⟨hz,hzd,hzi⟩)
  have hhas:∀ m,zt m (jd { ze s.ino f.xs with links:=(ze s.ino f.xs).links-1 } (jl s.dir (zg s.name) f.xs))=zt m f.xs:=fun m=>by
   rw[V5,JP hs.has]
   show (decide ((ze s.ino f.xs).ino=m)||_)=_
   rw[hx.2.2]
   by_cases h:s.ino=m
   ·rw[←h,hi];simp
   ·simp[h]
  have hcnt:∀ m,VK m (jd { ze s.ino f.xs with links:=(ze s.ino f.xs).links-1 } (jl s.dir (zg s.name) f.xs))=VK m (jl s.dir (zg s.name) f.xs):=fun m=>by
   have h:=zfg (m:=m) (x:={ ze s.ino f.xs with links:=(ze s.ino f.xs).links-1 }) hR1 hi1 hx.2.2
   rw[hg1]at h
   have e:HA m { ze s.ino f.xs with links:=(ze s.ino f.xs).links-1 }=HA m (ze s.ino f.xs):=rfl
   omega
  refine ⟨Jn hR1,fun x hx'=>?_,fun x hx'=>?_,fun x hx'=>?_,fun x hx' hk2=>?_,fun x hx' e hee=>?_,fun x hx'=>?_,by rw[hhas];exact hf.root,?_,?_⟩
  ·rcases hmem hx' with rfl | rfl | ⟨h,_⟩
   ·exact hf.ino (ze s.ino f.xs) hx.2.1
   ·exact hf.ino (ze s.dir f.xs) hd.2.1
   ·exact hf.ino _ h
  ·rcases hmem hx' with rfl | rfl | ⟨h,_⟩
   ·exact hf.kind (ze s.ino f.xs) hx.2.1
   ·exact hf.kind (ze s.dir f.xs) hd.2.1
   ·exact hf.kind _ h
  ·rcases hmem hx' with rfl | rfl | ⟨h,_⟩
   ·exact hf.es (ze s.ino f.xs) hx.2.1
   ·exact QW (hf.es (ze s.dir f.xs) hd.2.1)
   ·exact hf.es _ h
  ·rcases hmem hx' with rfl | rfl | ⟨h,_⟩
   ·exact he
   ·exact absurd hs.kind hk2
   ·exact hf.file _ h hk2
  ·rw[hhas]
   rcases hmem hx' with rfl | rfl | ⟨h,_⟩
   ·exact hf.led (ze s.ino f.xs) hx.2.1 e hee
   ·exact hf.led (ze s.dir f.xs) hd.2.1 e (jI hee).1
   ·exact hf.led _ h e hee
  ·rw[hcnt]
   rcases hmem hx' with rfl | rfl | ⟨h,_,hzi⟩
   ·show (ze s.ino f.xs).links-1=((VK (ze s.ino f.xs).ino (jl s.dir (zg s.name) f.xs):Nat):Int)
    rw[hx.2.2];omega
   ·have h3:=hc1 (ze s.dir f.xs).ino
    have h4:=hf.links (ze s.dir f.xs) hd.2.1
    rw[if_neg (by rw[hd.2.2];exact fun e=>hne e.symm)]at h3
    show (ze s.dir f.xs).links=((VK (ze s.dir f.xs).ino (jl s.dir (zg s.name) f.xs):Nat):Int)
    omega
   ·have h3:=hc1 x.ino
    rw[if_neg fun e=>hzi e.symm]at h3
    have h4:=hf.links _ h
    omega
  ·show (ze 1 (jd _ _)).kind=2
   rw[YS,if_neg (show ¬(ze s.ino f.xs).ino=1 by rw[hx.2.2];exact hr),Y3 hs.has]
   split
   ·exact hs.kind
   ·exact hf.base
  ·rw[hcnt]
   have:=hc1 1
   have:=hf.bare
   omega
end
section
theorem zkb {f:FsV} (hf:FsI f):∀ (ns:List (List UInt8)) (s:zV),(s.ino≠0->zt s.ino f.xs=true)->(atW f.xs ns s).2=0->ns≠[] ->
  zt (atW f.xs ns s).1.dir f.xs=true/\(ze (atW f.xs ns s).1.dir f.xs).kind=2/\(atW f.xs ns s).1.ino=zG (atW f.xs ns s).1.name (ze (atW f.xs ns s).1.dir f.xs).es/\(atW f.xs ns s).1.name∈ns
 | [],s,_,_,h=>absurd rfl h
 | n :: r,s,hs,h0,_=>by
  unfold atW at h0 ⊢
  by_cases h1:s.ino=0
  ·rw[if_pos h1]at h0;cases h0
  rw[if_neg h1]at h0 ⊢
  by_cases h2:(ze s.ino f.xs).kind≠2
  ·rw[if_pos h2]at h0;cases h0
  rw[if_neg h2]at h0 ⊢
  have h2:(ze s.ino f.xs).kind=2:=Classical.not_not.1 h2
  have hg:=zh (hs h1)
  have hnx:zG n (ze s.ino f.xs).es≠0->zt (zG n (ze s.ino f.xs).es) f.xs=true:=fun hne=>by
   have hh:Xl n (ze s.ino f.xs).es=true:=by
    unfold Xl
    rw[qP]
    cases hq:jk z8.name n (ze s.ino f.xs).es with
    | some e=>rfl
    | none=>unfold zG at hne;rw[hq]at hne;exact absurd rfl hne
   exact hf.led _ hg.2.1 _ (qt (XZ hh)).2
  cases r with
  | nil =>
   unfold atW
   rw[hg.2.2]
   exact ⟨hs h1,h2,rfl,List.mem_cons_self⟩
  | cons m r =>
   obtain ⟨i1,i2,i3,i4⟩:=zkb hf (m :: r) ⟨(ze s.ino f.xs).ino,n,zG n (ze s.ino f.xs).es⟩ hnx h0 (by simp)
   exact ⟨i1,i2,i3,List.mem_cons_of_mem _ i4⟩
theorem zfr {f:FsV} (hf:FsI f):∀ (ns:List (List UInt8)) (s:zV),(s.ino≠0->zt s.ino f.xs=true)->(atW f.xs ns s).1.ino≠0->zt (atW f.xs ns s).1.ino f.xs=true
 | [],s,hs,h=>hs h
 | n :: r,s,hs,h=>by
  unfold atW at h ⊢
  by_cases h1:s.ino=0
  ·rw[if_pos h1]at h;exact absurd rfl h
  rw[if_neg h1]at h ⊢
  by_cases h2:(ze s.ino f.xs).kind≠2
  ·rw[if_pos h2]at h;exact absurd rfl h
  rw[if_neg h2]at h ⊢
  have hg:=zh (hs h1)
  refine zfr hf r _ (fun hne=>?_) h
  have hne:zG n (ze s.ino f.xs).es≠0:=hne
  have hh:Xl n (ze s.ino f.xs).es=true:=by
   unfold Xl
   rw[qP]
   cases hq:jk z8.name n (ze s.ino f.xs).es with
   | some e=>rfl
   | none=>unfold zG at hne;rw[hq]at hne;exact absurd rfl hne
  exact hf.led _ hg.2.1 _ (qt (XZ hh)).2
end
section
structure yW (w:qR):Prop where
 fs:FsI w.fs
 kept:qF jN zP.slot w.kept
 pool:qh w.pool
 apart:∀ x∈w.pool,zt x.ino w.fs.xs=false/\x.ino<w.fs.next
theorem Vn {f:FsV} (hf:FsI f) {n:Int} (h:zt n f.xs=true):n≠0:=fun e=>by
 have:=(hf.ino _ (zh h).2.1).1
 rw[(zh h).2.2]at this
 omega
theorem HL {f:FsV} (hf:FsI f) {d:Int} (hd:zt d f.xs=true) {n:List UInt8} (h:Xl n (ze d f.xs).es=true):zt (zG n (ze d f.xs).es) f.xs=true:=
 hf.led _ (zh hd).2.1 _ (qt (XZ h)).2
theorem zrG {f:FsV} (hf:FsI f) {p:List UInt8} (hp:Jr p=true) (h:(atV f p).2=0) :
  zt (atV f p).1.dir f.xs=true/\(ze (atV f p).1.dir f.xs).kind=2/\(atV f p).1.ino=zG (atV f p).1.name (ze (atV f p).1.dir f.xs).es/\(atV f p).1.name∈zi p:=by
 unfold Jr at hp
 simp only[Bool.and_eq_true,Bool.not_eq_true',decide_eq_false_iff_not]at hp
 unfold atV at h ⊢
 rw[if_pos hp.1]at h ⊢
 exact zkb hf (zi p) ⟨0,[],1⟩ (fun _=>hf.root) h hp.2
theorem u0 {f:FsV} (hf:FsI f) {p:List UInt8} (hp:Jr p=true) (h:(isV f p true).2.2=0):zI f (isV f p true).1/\(isV f p true).2.1=ze (isV f p true).1.ino f.xs:=by
 unfold isV at h ⊢
 simp only at h ⊢
 by_cases h0:(atV f p).2≠0
 ·rw[if_pos h0]at h;exact absurd h h0
 rw[if_neg h0]at h
 have h0:(atV f p).2=0:=Classical.not_not.1 h0
 obtain ⟨a1,a2,a3,_⟩:=zrG hf hp h0
 refine ⟨⟨a1,a2,?_⟩,trivial⟩
 have hh:zt (atV f p).1.ino f.xs=true:=by
  cases hq:zt (atV f p).1.ino f.xs with
  | true=>rfl
  | false=>rw[hq]at h;simp at h
 have he:Xl (atV f p).1.name (ze (atV f p).1.dir f.xs).es=true:=by
  unfold Xl
  rw[qP]
  cases hq:jk z8.name (atV f p).1.name (ze (atV f p).1.dir f.xs).es with
  | some e=>rfl
  | none =>
   unfold zG at a3
   rw[hq]at a3
   exact absurd a3 (Vn hf hh)
 rw[XZ he,←a3]
theorem ZT {o:OpV} (h:yZ o=true):Jr o.a=true/\(zqy o.kind=true->Jr o.b=true)/\1<=o.kind/\o.kind<=10:=by
 unfold yZ at h
 simp only[Bool.and_eq_true,decide_eq_true_eq]at h
 obtain ⟨⟨⟨⟨⟨⟨h1,h2⟩,h3⟩,h4⟩,h5⟩,h6⟩,h7⟩:=h
 exact ⟨h3,fun hb=>by rw[if_pos hb]at h5;exact h5,h1,h2⟩
theorem zno {k:zP} {ks:List zP} (h:qF jN zP.slot ks) (hn:xx k.slot ks=false):qF jN zP.slot (qv k ks):=
 Hw h fun y hy e=>by
  unfold xx J3 at hn
  rw[List.any_eq_false]at hn
  exact hn y hy (by simpa using e)
theorem XW {f:FsV} {s:zV} (h:zt s.dir f.xs=true) (hi:zt s.ino f.xs=true) (m:Int):zt m (zk f s).xs=if (ze s.ino f.xs).links-1=0 then (!decide (m=s.ino)&&zt m f.xs) else zt m f.xs:=by
 unfold zk
 split
 ·show zt m (zU _ _)=_
  rw[YD,JP h]
 ·show zt m (jd _ _)=_
  rw[V5,JP h]
  show (decide ((ze s.ino f.xs).ino=m)||_)=_
  rw[(zh hi).2.2]
  by_cases e:s.ino=m
  ·rw[←e,hi];simp
  ·simp[e]
theorem JQ (f:FsV) (s:zV):(zk f s).next=f.next:=by unfold zk;split<;>rfl
theorem vK {w:qR} (hw:yW w) {n:Int} {s:zV} (hs:zI w.fs s) (he:(ze s.ino w.fs.xs).es = []):yW (Js w n s).1:=by
 unfold Js
 cases hn:xx n w.kept with
 | true=>rw[if_pos rfl];exact hw
 | false =>
  rw[if_neg (by simp)]
  have hi:=zI.ino hw.fs hs
  have hg:=zh hi
  have hf:=Uw hw.fs hs he
  refine ⟨hf,zno hw.kept hn,?_,fun x hx=>?_⟩
  ·show qh (if _ then _ else _)
   split
   ·exact Jn hw.pool
   ·exact hw.pool
  ·show zt x.ino (zk w.fs s).xs=false/\x.ino<(zk w.fs s).next
   rw[XW hs.has hi,JQ]
   have hx:x∈(if (ze s.ino w.fs.xs).links=1 then jd { ze s.ino w.fs.xs with links:=0,parent:=0 } w.pool else w.pool):=hx
   by_cases h1:(ze s.ino w.fs.xs).links=1
   ·rw[if_pos h1]at hx
    rw[if_pos (by omega)]
    rcases Y4.1 hx with rfl | ⟨hx,_⟩
    ·refine ⟨?_,?_⟩
     ·show (!decide ((ze s.ino w.fs.xs).ino=s.ino)&&_)=false
      rw[hg.2.2];simp
     ·exact (hw.fs.ino _ hg.2.1).2
    ·obtain ⟨a1,a2⟩:=hw.apart x hx
     rw[a1,Bool.and_false]
     exact ⟨rfl,a2⟩
   ·rw[if_neg h1]at hx
    rw[if_neg (by omega)]
    exact hw.apart x hx
end
section
def zaF (N:Nat) (x:zn):Prop:=x.es.length<=N/\x.data.length<=5000/\∀ e∈x.es,e.name.length<=300
structure zr6 (N:Nat) (w:qR):Prop where
 len:w.fs.xs.length<=N
 node:∀ x∈w.fs.xs,zaF N x
 klen:w.kept.length<=N
 kdata:∀ k∈w.kept,k.data.length<=5000
 plen:w.pool.length<=N
 pnode:∀ x∈w.pool,zaF N x
 next:w.fs.next<=1099511627776+N
 room:w.fs.maxI<=1073741824/\w.fs.maxB<=1073741824/\-1073741824<=w.fs.maxI/\-1073741824<=w.fs.maxB
theorem zdF {n:List UInt8} (h:may n=true):n.length<=255:=by
 unfold may at h
 simp only[Bool.and_eq_true,decide_eq_true_eq]at h
 exact h.1.1.1.2
theorem N1 {N:Nat} {x:zn} (h:zaF N x) (n:List UInt8):zaF N (jQ x (zg n x.es)):=by
 refine ⟨?_,h.2.1,fun e he=>h.2.2 e (jI he).1⟩
 have:=N8 (key:=z8.name) n x.es
 have:=h.1
 show (JX z8.name n x.es).length<=N
 omega
theorem uc {N:Nat} {xs:List zn} (h:∀ x∈xs,zaF N x) {n:Int} (hh:zt n xs=true):zaF N (ze n xs):=h _ (zh hh).2.1
theorem znj {N:Nat} {xs:List zn} {x:zn} (h:∀ x∈xs,zaF N x) (hx:zaF N x):∀ z∈jd x xs,zaF N z:=fun z hz=>by
 rcases Y4.1 hz with rfl | ⟨hz,_⟩
 ·exact hx
 ·exact h z hz
theorem QX {x:zn} {xs:List zn} (hR:qh xs) (hh:zt x.ino xs=true):(jd x xs).length=xs.length:=by rw[←xW hR hh];simp
theorem ZM {xs:List zn} {n:Int} {F:List z8->List z8} (hR:qh xs) (hh:zt n xs=true):(jl n F xs).length=xs.length:=by
 unfold jl
 refine QX hR ?_
 show zt (ze n xs).ino xs=true
 rw[(zh hh).2.2];exact hh
theorem xo (k:zP) (ks:List zP):(qv k ks).length=ks.length+1:=HX k ks
theorem zlZ {N:Nat} {f:FsV} (hf:FsI f) (h1:f.xs.length<=N) (h2:∀ x∈f.xs,zaF N x) {s:zV} (hs:zI f s):(zk f s).xs.length<=N/\(∀ x∈(zk f s).xs,zaF N x)/\(zk f s).next=f.next/\(zk f s).maxI=f.maxI/\(zk f s).maxB=f.maxB:=by
 have hi:=zI.ino hf hs
 have hd:∀ z∈jl s.dir (zg s.name) f.xs,zaF N z:=fun z hz=>by
  rcases (QH hs.has).1 hz with rfl | ⟨hz,_⟩
  ·exact N1 (uc h2 hs.has) _
  ·exact h2 z hz
 have hl:=ZM (F:=zg s.name) hf.rises hs.has
 unfold zk
 split
 ·refine ⟨?_,fun x hx=>hd x (YM.1 hx).1,rfl,rfl,rfl⟩
  show (zU _ _).length<=N
  exact Nat.le_trans VQ (by rw[hl];exact h1)
 ·refine ⟨?_,znj hd (uc h2 hi),rfl,rfl,rfl⟩
  show (jd _ _).length<=N
  rw[QX (show qh (jl s.dir (zg s.name) f.xs) from Jn hf.rises) ?_,hl]
  ·exact h1
  ·show zt (ze s.ino f.xs).ino (jl _ _ _)=true
   rw[(zh hi).2.2,JP hs.has];exact hi
end
section
open CA CB
open Go.RowKit
section
variable {G:zo}
end
end
section
open CA CB
open Go.RowKit
abbrev jq (s:zV):List C:=[.sc (.int .i64 s.dir),.str s.name,.sc (.int .i64 s.ino)]
theorem FsS.es {f:FsV} (h:FsS f) {n:Int} (hh:zt n f.xs=true):(ze n f.xs).es.length<=10000:=(h.node _ (zh hh).2.1).1
theorem xg {xs:List (List UInt8)} {k:Nat} (h:k<xs.length):(zJ xs)[k]?=some [.str xs[k]]:=by simp[List.getElem?_map,List.getElem?_eq_getElem h]
theorem ua (f:FsV) (hf:FsI f) (hs:FsS f) (p:List UInt8) (hp:p.length<=100000):Fun Tryz.prog G0 179 [.agg (fsC f),.str p] (.tup [.agg (jq (atV f p).1),.sc (.int .i64 (atV f p).2)]) 0:=by
 have hpl:=xk p (by omega)
 have hlen:=hs.len
 have hnl:(zi p).length<=100000:=by have:=qf p;omega
 cases hpp:J2 p with
 | false =>
  have e:atV f p=(qd,9):=by unfold atV;rw[hpp];rfl
  unfold Yn at hpl
  rw[hpp]at hpl
  refine fon Tryz.func179 ?_;dsimp only[Tryz.f179]
  push_cast -dsimp
  refine cl (hpl) ?_;push_cast -dsimp
  exact dn (by push_cast -dsimp [zb,za,CLe,zd,e,qd])
 | true =>
  have e:atV f p=atW f.xs (zi p) ⟨0,[],1⟩:=by unfold atV;rw[hpp];rfl
  unfold Yn at hpl
  rw[hpp,if_pos rfl]at hpl
  generalize zi p=ns at hpl hnl e
  have hsl:(zJ ns).length=ns.length:=List.length_map ..
  refine fon Tryz.func179 ?_;dsimp only[Tryz.f179]
  push_cast -dsimp
  refine cl (hpl) ?_;push_cast -dsimp
  refine loop (fun x:Nat×zV=>⟨[(1,.str p),(2,.ptr 0 0),(4,.ptr 1 0),(8,.ptr 2 0),(24,.own 0 9 1 (zJ ns)),(25,.sc (.int .i64 (ns.length:Nat))),(26,.sc (.int .i64 x.1))],[fsC f,[.sc (.int .i64 0),.str [],.sc (.int .i64 0)],jq x.2],1,0⟩)
   (fun x=>x.1<=ns.length/\atW f.xs ns ⟨0,[],1⟩=atW f.xs (ns.drop x.1) x.2/\(x.2.ino≠0->zt x.2.ino f.xs=true)) (fun x=>ns.length-x.1) (0,⟨0,[],1⟩) ⟨Nat.zero_le _,rfl,fun _=>hf.root⟩ ?_ ?_
  ·exact wks [.inl 0] (by push_cast -dsimp [zb,za,CLe,zd,hsl])
  rintro ⟨k,s⟩ ⟨hk,hat,hin⟩
  simp only at hk hat hin ⊢
  by_cases hlt:k<ns.length
  ·have gs:=xg hlt
   have hdr:ns.drop k=ns[k] :: ns.drop (k+1):=List.drop_eq_getElem_cons hlt
   obtain ⟨nm,hnm⟩:∃ nm,ns[k]=nm:=⟨_,rfl⟩
   rw[hnm]at gs hdr
   have hg:=jG (G:=G0) f s.ino (by omega) hf.rises
   cases hh:zt s.ino f.xs with
   | false =>
    have h0:s.ino=0:=Classical.byContradiction fun hne=>by rw[hin hne]at hh;cases hh
    have hr:atV f p=(qd,1):=by rw[e,hat,hdr];unfold atW;rw[if_pos h0]
    rw[hh]at hg
    push_cast -dsimp [hlt,gs]
    repeat refine an ?_
    refine cl (hg) ?_;push_cast -dsimp
    exact dn (by push_cast -dsimp [zb,za,CLe,zd,hr,qd])
   | true =>
    have hn0:s.ino≠0:=Vn hf hh
    have hgg:=zh hh
    rw[hh]at hg
    by_cases hk2:(ze s.ino f.xs).kind=2
    ·have hfd:=xv (G:=G0) (ze s.ino f.xs).es nm (by have:=hs.es hh;omega) (hf.es _ hgg.2.1)
     have hnx:atW f.xs ns ⟨0,[],1⟩=atW f.xs (ns.drop (k+1)) ⟨(ze s.ino f.xs).ino,nm,zG nm (ze s.ino f.xs).es⟩:=by
      rw[hat,hdr]
      conv=>lhs;unfold atW
      rw[if_neg hn0,if_neg (by simp[hk2])]
     have hin2:zG nm (ze s.ino f.xs).es≠0->zt (zG nm (ze s.ino f.xs).es) f.xs=true:=fun hne=>by
      refine HL hf hh ?_
      unfold Xl
      rw[qP]
      cases hq:jk z8.name nm (ze s.ino f.xs).es with
      | some e=>rfl
      | none=>unfold zG at hne;rw[hq]at hne;exact absurd rfl hne
     push_cast -dsimp [hlt,gs]
     repeat refine an ?_
     refine cl (hg) ?_;push_cast -dsimp [hk2]
     refine cl (hfd) ?_;push_cast -dsimp
     repeat refine an ?_
     exact ⟨(k+1,⟨(ze s.ino f.xs).ino,nm,zG nm (ze s.ino f.xs).es⟩),⟨hlt,hnx,hin2⟩,by simp only;omega,wks [.inl 0]⟩
    ·have hr:atV f p=(qd,3):=by rw[e,hat,hdr];unfold atW;rw[if_neg hn0,if_pos hk2]
     push_cast -dsimp [hlt,gs]
     repeat refine an ?_
     refine cl (hg) ?_;push_cast -dsimp [hk2]
     exact dn (by push_cast -dsimp [zb,za,CLe,zd,hr,qd])
  ·have hr:atV f p=(s,0):=by rw[e,hat,List.drop_of_length_le (by omega)];unfold atW;rfl
   push_cast -dsimp [hlt]
   exact dn (by push_cast -dsimp [zb,za,CLe,zd,hr])
end
section
open CA CB
open Go.RowKit
abbrev zrN (f:FsV):Prop:=0<=f.next/\f.next<=4000000000000000000
theorem vB {f:FsV} (hf:FsI f):f.xs≠[]:=fun h=>by have:=hf.root;rw[h]at this;cases this
theorem zdL {f:FsV} (hf:FsI f) {n:Int} (hh:zt n f.xs=true):XC (ze n f.xs).es:=hf.es _ (zh hh).2.1
theorem Fun.argsLe {P:Program} {G:zo} {f:FuncId} {args args':List C} {r:C} {n:Nat} (h:Fun P G f args r n) (ha:∀ R vs,zu R zE args' vs->zu R zE args vs):Fun P G f args' r n:=
 ⟨h.1,fun R vs hg hv=>h.2 R vs hg (ha R vs hv)⟩
theorem zid {R:Env} {L:Loc} {k:Nat} {v:Value} (h:Rep R L (.sc (.slice none 0 0)) v):Rep R L (.sl k []) v:=by
 rw[zm]at h
 subst h
 unfold Rep
 exact ⟨none,0,rfl,Nat.le_refl _,Nat.zero_le _,.inl rfl⟩
end
section
open CA CB
open Go.RowKit
theorem zdT {g:zn->Nat} {n:Nat}:∀ {xs:List zn},(∀ x∈xs,g x<=n)->J1 g xs<=xs.length*n
 | [],_=>by simp[J1]
 | x :: r,h=>by
  have ih:=zdT (g:=g) (n:=n) (xs:=r) fun y hy=>h y (List.mem_cons_of_mem _ hy)
  have hx:=h x List.mem_cons_self
  unfold J1 at ih ⊢
  simp only[List.map_cons,List.sum_cons,List.length_cons]
  rw[Nat.succ_mul];omega
theorem vR {f:FsV} (hf:FsI f) (hs:FsS f) {n:Int} (hh:zt n f.xs=true):0<=(ze n f.xs).links/\(ze n f.xs).links<=100000000:=by
 have h1:=hf.links _ (zh hh).2.1
 have h2:=zdT (g:=HA (ze n f.xs).ino) (n:=10000) (xs:=f.xs) fun x hx=>Nat.le_trans (List.length_filter_le _ _) (hs.node x hx).1
 have h3:=hs.len
 have h4:f.xs.length*10000<=10000*10000:=Nat.mul_le_mul_right _ h3
 unfold VK at h1
 omega
theorem zaN (f:FsV) (hf:FsI f) (hs:FsS f) (s:zV) (hsp:zI f s) (hne:s.dir≠s.ino):Fun Tryz.prog G0 222 [.agg (fsC f),.agg (jq s)] (.agg (fsC (zk f s))) 0:=by
 have hi:=zI.ino hf hsp
 have hlen:=hs.len
 have hg:=jG (G:=G0) f s.dir (by omega) hf.rises
 rw[hsp.has]at hg
 have hes:=hs.es hsp.has
 have hhe:J3 z8.name s.name (ze s.dir f.xs).es=true:=by rw[qP,hsp.there];rfl
 have hw:=NT (G:=G0) (ze s.dir f.xs).es s.name (by omega) (zdL hf hsp.has) hhe
 have hd1:=zgx (G:=G0) f (jQ (ze s.dir f.xs) (zg s.name (ze s.dir f.xs).es)) (by omega) hf.rises
 have hdl:(jl s.dir (zg s.name) f.xs).length=f.xs.length:=ZM hf.rises hsp.has
 have hR1:qh (jl s.dir (zg s.name) f.xs):=Jn hf.rises
 have hg2:=jG (G:=G0) ⟨f.maxI,f.maxB,f.next,jl s.dir (zg s.name) f.xs⟩ s.ino (by simp only;omega) hR1
 simp only at hg2
 rw[JP hsp.has,hi,Y3 hsp.has,if_neg hne]at hg2
 have hl:=vR hf hs hi
 have hxi:=(zh hi).2.2
 have hd2:=zgx (G:=G0) ⟨f.maxI,f.maxB,f.next,jl s.dir (zg s.name) f.xs⟩ { ze s.ino f.xs with links:=(ze s.ino f.xs).links-1 } (by simp only;omega) hR1
 have hd3:=zhr (G:=G0) ⟨f.maxI,f.maxB,f.next,jl s.dir (zg s.name) f.xs⟩ s.ino (by simp only;omega) hR1 (by intro h;have h0:f.xs = []:=List.length_eq_zero_iff.1 (by rw[←hdl];exact congrArg List.length h);exact vB hf h0)
 have e0:zk f s=if (ze s.ino f.xs).links-1=0 then ⟨f.maxI,f.maxB,f.next,zU s.ino (jl s.dir (zg s.name) f.xs)⟩ else ⟨f.maxI,f.maxB,f.next,jd { ze s.ino f.xs with links:=(ze s.ino f.xs).links-1 } (jl s.dir (zg s.name) f.xs)⟩:=rfl
 unfold jl at hg2 hd2 hd3 e0
 by_cases hz:(ze s.ino f.xs).links-1=0
 ·rw[if_pos hz]at e0
  have hz':=eq_true hz
  rw[←hxi]at hd3
  refine fon Tryz.func222 ?_;dsimp only[Tryz.f222]
  push_cast -dsimp
  refine cl (hg) ?_;push_cast -dsimp
  refine cl (hw) ?_;push_cast -dsimp
  refine cl (hd1) ?_;push_cast -dsimp
  refine cl (hg2) ?_;push_cast -dsimp [hz']
  repeat refine an ?_
  refine cl (hd3) ?_;push_cast -dsimp
  exact dn (by push_cast -dsimp [zb,za,CLe,zd,e0,hxi])
 ·rw[if_neg hz]at e0
  have hz':=eq_false hz
  refine fon Tryz.func222 ?_;dsimp only[Tryz.f222]
  push_cast -dsimp
  refine cl (hg) ?_;push_cast -dsimp
  refine cl (hw) ?_;push_cast -dsimp
  refine cl (hd1) ?_;push_cast -dsimp
  refine cl (hg2) ?_;push_cast -dsimp [hz']
  repeat refine an ?_
  refine cl (hd2) ?_;push_cast -dsimp
  exact dn (by push_cast -dsimp [zb,za,CLe,zd,e0])
end
section
open CA CB
open Go.RowKit
end
section
open Go.RowKit
section
variable {G:zo}
theorem kW (rows:List (List C)) (hk:∀ r∈rows,r.length=4) (hs:ji rows) (hl:rows.length<=100000) :
  Xh Tryz.prog G 253 [.sl 4 rows] [] 0 (zks 4 rows):=by
 refine Xh.bySlice (fun h=>?_) (fun h a cap hr=>?_)
 ·refine foX (fun i=>if i=1000000+25 then [true,true] else []) Tryz.func253 ?_;dsimp only[Tryz.f253]
  push_cast -dsimp
  refine ⟨h,Z7 US Uq rfl rfl (by decide) rfl (zN hk) rfl (Nat.le_refl _) (Nat.le_refl _) (by omega) (by omega) (fun hc=>absurd hc ?_) (fun _ c hc hm=>?_)⟩
  ·have:=List.length_pos_iff.2 h;omega
  ·push_cast -dsimp
   rw[Nat.zero_add]at hc
   refine ⟨_,_,_,⟨⟨rfl,.inl ⟨h,c,hc,hm,rfl,rfl⟩⟩,Nat.zero_le _⟩,[],rfl,rfl,?_,by push_cast -dsimp [zb,za,CLe,zd]⟩
   push_cast -dsimp [zb,za,CLe,zd]
   exact zR (zK hs)
 ·cases a with
  | none =>
   refine foX (fun i=>if i=1000000+25 then [true,true] else []) Tryz.func253 ?_;dsimp only[Tryz.f253]
   push_cast -dsimp [hr,Option.isNone_none]
   exact ⟨_,_,_,⟨⟨rfl,.inr ⟨h,.inl ⟨rfl,rfl⟩⟩⟩,Nat.zero_le _⟩,[],rfl,rfl,by push_cast -dsimp [zb,za,CLe,zd],by push_cast -dsimp [zb,za,CLe,zd]⟩
  | some a =>
   refine foX (fun i=>if i=1000000+25 then [true,true] else []) Tryz.func253 ?_;dsimp only[Tryz.f253]
   push_cast -dsimp [hr,Option.isNone_some]
   have hx:C.xs? 4 [[]] (C.sc (.slice (some a) 0 cap))=some (0,[]):=by simp[C.xs?,hr]
   refine Z7 US Uq hx rfl (by decide) rfl rfl rfl (Nat.le_refl _) (Nat.le_refl _) (by omega) (by omega) (fun _=>?_) (fun hc=>absurd hc (by omega))
   push_cast -dsimp
   exact ⟨_,_,_,⟨⟨rfl,.inr ⟨h,.inr ⟨rfl,rfl⟩⟩⟩,Nat.zero_le _⟩,[],rfl,rfl,by (push_cast -dsimp [zb,za,CLe,zd];simp[spl,zd]),by push_cast -dsimp [zb,za,CLe,zd]⟩
theorem VO (rows:List (List C)) (x:List C) (i c e:Nat) (hk:∀ r∈rows,r.length=4) (hx:x.length=4) (hs:ji rows) (hsx:(x.all C.stayB)=true) (hl:rows.length<=100000) (hi:i<=rows.length) (hc:rows.length<=c) (hcm:c<=9223372036854775807) :
  Xh Tryz.prog G 252 [.bs 0 0 4 rows.length c,.sc (.int .i64 i),.own 0 e 4 [x]] [qH 4 rows c] 1 (zqW 4 (c*4) (rows.take i++x :: rows.drop i)):=by
 refine foX (fun j=>if j=1000000+25 then [true,true] else if j=11 then [false,false,false,false,false,false,false,false,true] else if j=15 then [false,false,false,false,false,false,false,false,true] else []) Tryz.func252 ?_;dsimp only[Tryz.f252]
 push_cast -dsimp
 have hlen:(rows.take i++x :: rows.drop i).length=rows.length+1:=by simp;omega
 have hki:∀ r∈rows.take i++x :: rows.drop i,r.length=4:=fun r hr=>by
  rcases List.mem_append.1 hr with hr | hr
  ·exact hk r (List.mem_of_mem_take hr)
  ·rcases List.mem_cons.1 hr with rfl | hr
   ·exact hx
   ·exact hk r (List.mem_of_mem_drop hr)
 have hsi:ji (rows.take i++x :: rows.drop i):=fun r hr=>by
  rcases List.mem_append.1 hr with hr | hr
  ·exact hs r (List.mem_of_mem_take hr)
  ·rcases List.mem_cons.1 hr with rfl | hr
   ·exact hsx
   ·exact hs r (List.mem_of_mem_drop hr)
 have hbl:=Yc hk hc
 have hfl:=zN hk
 have hxl:[x].flatten.length=1*4:=by simp[hx]
 have hpre:(qH 4 rows c).take rows.flatten.length=rows.flatten:=by unfold qH;rw[List.take_left]
 refine ⟨hc,⟨by omega,hi⟩,br (fun h=>?_) (fun h=>?_)⟩
 ·push_cast -dsimp
  refine Z7 US Uq rfl rfl (by decide) rfl hxl rfl (by rw[hbl];omega) hc (by simp;omega) (by simp;omega) (fun h1=>?_) (fun h1 c' h2 h3=>?_)
  ·push_cast -dsimp
   have hi':i=rows.length:=of_decide_eq_true h
   refine ⟨_,_,_,⟨⟨rfl,c,by rw[hlen];exact h1,hcm,.inl ⟨rfl,rfl⟩⟩,Nat.le_refl _⟩,[],rfl,rfl,?_,by push_cast -dsimp [zb,za,CLe,zd,hlen]⟩
   push_cast -dsimp [zb,za,CLe,zd]
   have h6:rows.length*4+4<=c*4:=by have:rows.length+1<=c:=h1;omega
   refine Y8 hki hsi (by rw[hlen];exact h1) (by rw[ZC (by rw[hbl,hx];exact h6),hbl]) ?_
   rw[hlen,hi',List.take_length,List.drop_length]
   unfold spl
   rw[←hfl,hpre,List.take_left' (by simp[hx,hfl];omega)]
   simp
  ·push_cast -dsimp
   have hi':i=rows.length:=of_decide_eq_true h
   have h2':rows.length+1<=c':=h2
   refine ⟨_,_,_,⟨⟨rfl,c',by rw[hlen];exact h2,h3,.inr ⟨rfl,rfl⟩⟩,Nat.le_of_ble_eq_true rfl⟩,[],rfl,rfl,?_,by push_cast -dsimp [zb,za,CLe,zd,hlen]⟩
   push_cast -dsimp [zb,za,CLe,zd]
   refine ⟨Qx hbl,Y8 hki hsi (by rw[hlen];exact h2) (by simp[hx,hbl];omega) ?_⟩
   rw[hlen,hi',List.take_length,List.drop_length,←hfl,hpre,List.take_left' (by simp[hx,hfl];omega)]
   simp
 ·have hne:i≠rows.length:=of_decide_eq_false h
  push_cast -dsimp
  refine ⟨⟨by omega,by omega⟩,br (fun h1=>?_) (fun h1=>?_)⟩
  ·have h1':(c:Int)<(rows.length:Int)+1:=of_decide_eq_true h1
   push_cast -dsimp
   repeat refine an ?_
   refine zqe US znC Uq rfl (by decide) rfl rfl (by rw[hbl];omega) (by omega) (by omega) (by omega) (by omega) (by omega) (fun c' B h2 h3 hBl hBt=>?_)
   have e1:((rows.length:Int)+1-(i:Int)).toNat=rows.length+1-i:=by omega
   rw[e1]at h2 ⊢
   have e2:i+(rows.length+1-i)=rows.length+1:=by omega
   rw[e2]at h2 ⊢
   push_cast -dsimp
   repeat refine an ?_
   refine Vh US Uq rfl rfl hxl (by rw[hBl];omega) (fun B1 hB1 hl1=>?_)
   rw[hBl]at hl1
   push_cast -dsimp
   repeat refine an ?_
   have hbp:=QK (c:=c) hk hi
   refine Vh US Uq (xh rfl (by rw[hbl];omega)) rfl (by rw[hbp,List.length_drop,hfl];omega) (by rw[hl1];omega) (fun B2 hB2 hl2=>?_)
   rw[hl1]at hl2
   have hX:[x].flatten.take (min [x].length (rows.length+1-i)*4)=x:=by
    rw[List.length_singleton,Nat.min_eq_left (by omega),List.take_of_length_le (by omega)];simp
   rw[hX]at hB1
   rw[hbp,show min (rows.length-i) (rows.length-i)*4=(rows.length-i)*4 by omega,List.take_of_length_le (by rw[List.length_drop,hfl];omega),hB1]at hB2
   push_cast -dsimp
   refine ⟨_,_,_,⟨⟨rfl,c',by rw[hlen];exact h2,h3,.inr ⟨rfl,rfl⟩⟩,Nat.le_of_ble_eq_true rfl⟩,[],rfl,rfl,?_,by push_cast -dsimp [zb,za,CLe,zd,hlen]⟩
   push_cast -dsimp [zb,za,CLe,zd]
   refine ⟨Qx hbl,Y8 hki hsi (by rw[hlen];exact h2) hl2 ?_⟩
   rw[hlen,←V0 hk,hB2]
   have hg:=zac (cs:=B) (L:=rows.flatten) (X:=x) (p:=i*4) (q:=(i+1)*4) (by omega) (by omega) (by
    rw[hBt,List.drop_zero];unfold qH;rw[List.take_append_of_le_length (by omega)]) (by omega)
   rw[hfl,hx]at hg
   rw[←hg]
   congr 1;omega
  ·have h1':¬(c:Int)<(rows.length:Int)+1:=of_decide_eq_false h1
   push_cast -dsimp
   repeat refine an ?_
   refine zn0 (zeK (P:=Tryz.prog) (tR:=4) Tryz.func271 (by kernel_rfl) (by kernel_rfl) (by kernel_rfl) (by kernel_rfl) US Uq rfl (List.ne_nil_of_length_pos (by rw[hbl];omega)) (by simp) (by omega)) ?_
   push_cast -dsimp
   repeat refine an ?_
   have hbp:=QK (c:=c) hk hi
   refine Vh US Uq (xh rfl (by rw[hbl];omega)) rfl (by simp[hbl];omega) (by rw[hbl];omega) (fun B1 hB1 hl1=>?_)
   rw[hbl]at hl1
   rw[List.take_take,Nat.min_eq_left (by omega),show min (rows.length+1-i) (rows.length-i)*4=(rows.length-i)*4 by omega,hbp]at hB1
   push_cast -dsimp
   repeat refine an ?_
   refine Vh US Uq rfl rfl hxl (by rw[hl1];omega) (fun B2 hB2 hl2=>?_)
   rw[hl1]at hl2
   have hX:[x].flatten.take (min [x].length (rows.length+1-i)*4)=x:=by
    rw[List.length_singleton,Nat.min_eq_left (by omega),List.take_of_length_le (by omega)];simp
   rw[hX,hB1]at hB2
   push_cast -dsimp
   have hcc:rows.length+1<=c:=by omega
   refine ⟨_,_,_,⟨⟨rfl,c,by rw[hlen];exact hcc,hcm,.inl ⟨rfl,rfl⟩⟩,Nat.le_of_ble_eq_true rfl⟩,[],rfl,rfl,?_,by push_cast -dsimp [zb,za,CLe,zd,hlen]⟩
   push_cast -dsimp [zb,za,CLe,zd]
   refine Y8 hki hsi (by rw[hlen];exact hcc) hl2 ?_
   rw[hlen,←V0 hk,hB2]
   have hg:=MY (cs:=qH 4 rows c) (L:=rows.flatten) (X:=x) (p:=i*4) (q:=(i+1)*4) (by omega) (by omega) hpre (by omega)
   rw[hfl,hx]at hg
   rw[←hg]
   congr 1;omega
theorem uM {e:Nat} (x:List C) (hx:x.length=4) (hsx:(x.all C.stayB)=true) :
  Xh Tryz.prog G 252 [.sc (.slice none 0 0),.sc (.int .i64 0),.own 0 e 4 [x]] [] 1 (fun r bx' n=>n=0/\∃ c,1<=c/\c<=9223372036854775807/\r = .bs 0 0 4 1 c/\bx' = [qH 4 [x] c]):=by
 refine foX (fun j=>if j=1000000+25 then [true,true] else if j=11 then [false,false,false,false,false,false,false,false,true] else if j=15 then [false,false,false,false,false,false,false,false,true] else []) Tryz.func252 ?_;dsimp only[Tryz.f252]
 push_cast -dsimp
 refine zah US Uq rfl rfl (by decide) rfl (by simp[hx]) (by simp) (by simp) (by simp) (fun c h1 h2=>?_)
 push_cast -dsimp
 refine ⟨_,_,_,⟨⟨rfl,c,h1,h2,rfl,rfl⟩,Nat.zero_le _⟩,[],rfl,rfl,?_,by push_cast -dsimp [zb,za,CLe,zd]⟩
 push_cast -dsimp [zb,za,CLe,zd]
 have:=zR (src:=[]) (n:=1) (zK (k:=4) (c:=c) (rows:=[x]) fun r hr=>by
  rw[List.mem_singleton.1 hr];exact hsx)
 unfold qH at this ⊢
 simpa using this
end
end
section
open CA CB
open Go.RowKit
abbrev Jb (k:zP):List C:=[.sc (.int .i64 k.slot),.sc (.int .i64 k.ino),.sc (.bool k.content),.str k.data]
abbrev zF (ks:List zP):List (List C):=ks.map Jb
theorem Jg (ks:List zP) (i:Nat) (h:i<ks.length):(zF ks)[i]?=some (Jb ks[i]):=by simp[List.getElem?_map,List.getElem?_eq_getElem h]
abbrev Nb (w:qR):List C:=[.sc (.int .i64 w.fs.maxI),.sc (.int .i64 w.fs.maxB),.sc (.int .i64 w.fs.next),.sl 6 (zq w.fs.xs),.sl 4 (zF w.kept),.sl 6 (zq w.pool)]
abbrev Vu (w:qR):C:=.agg (Nb w)
theorem zcX (a b:Int):V1 a b<0↔jN.lt a b=true:=by
 show V1 a b<0↔decide (a<b)=true
 unfold V1
 rw[decide_eq_true_eq]
 split
 ·simp;assumption
 ·split<;>omega
theorem zez (a b:Int):V1 a b=0↔a=b:=by
 unfold V1
 split
 ·constructor
  ·intro h;cases h
  ·intro h;omega
 ·split
  ·constructor
   ·intro h;cases h
   ·intro h;omega
  ·constructor
   ·intro _;omega
   ·intro _;rfl
section
variable {G:zo}
theorem zj3 (k:zP):Fun Tryz.prog G 247 [.agg (Jb k)] (.sc (.int .i64 k.slot)) 0:=by
 refine fon Tryz.func247 ?_;dsimp only[Tryz.f247]
 push_cast -dsimp
 exact dn
theorem u7 (k:zP) (n:Int):Fun Tryz.prog G 268 [.agg (Jb k),.sc (.int .i64 n),.row [.clo (.func 247) [] []]] (.sc (.int .i64 (V1 k.slot n))) 0:=by
 refine fon Tryz.func268 ?_;dsimp only[Tryz.f268]
 push_cast -dsimp
 refine cl (zj3 k) ?_;push_cast -dsimp
 refine cl (vD k.slot n) ?_;push_cast -dsimp
 exact dn
theorem N9 (ks:List zP) (n:Int) (hl:ks.length<=100000) (hR:qF jN zP.slot ks) :
  Fun Tryz.prog G 267 [.sl 4 (zF ks),.sc (.int .i64 n),.clo (.func 268) [] [.row [.clo (.func 247) [] []]]] (.tup [.sc (.int .i64 (qq jN zP.slot n ks:Nat)),.sc (.bool (J3 zP.slot n ks))]) 0:=by
 refine fon Tryz.func267 ?_;dsimp only[Tryz.f267]
 push_cast -dsimp
 refine loop (fun p:Nat×Nat=>⟨[(0,.sl 4 (zF ks)),(1,.sc (.int .i64 n)),(2,.clo (.func 268) [] [.row [.clo (.func 247) [] []]]),(8,.sc (.int .i64 (ks.length:Nat))),(9,.sc (.int .i64 p.1)),(10,.sc (.int .i64 p.2))],[],0,0⟩)
  (fun p=>p.1<=p.2/\p.2<=ks.length/\(∀ t (h:t<ks.length),t<p.1->(jN).lt (zP.slot ks[t]) n=true)/\∀ t (h:t<ks.length),p.2<=t->(jN).lt (zP.slot ks[t]) n=false) (fun p=>p.2-p.1) (0,ks.length) ⟨Nat.zero_le _,Nat.le_refl _,fun t _ h=>by (simp at h),fun t h h'=>by (dsimp only at h';omega)⟩ ?_ ?_
 ·exact wk (by push_cast -dsimp [zb,za,CLe,zd,List.length_map])
 ·rintro ⟨i,j⟩ ⟨h1,h2,h3,h4⟩
  dsimp only at h1 h2 h3 h4 ⊢
  by_cases h:i<j
  ·obtain ⟨m,hm⟩:∃ m,m=(i+j) / 2:=⟨_,rfl⟩
   have hmi:((i:Int)+(j:Int)) / 2=(m:Int):=by omega
   have hml:m<ks.length:=by omega
   have hat:=Jg ks m hml
   have hlt:=(zcX ks[m].slot n)
   push_cast -dsimp [h,hmi,hat]
   repeat refine an ?_
   refine cl ((u7 ks[m] n)) ?_;push_cast -dsimp
   cases hc:(jN).lt (zP.slot ks[m]) n with
   | true =>
    have hcv:(V1 ks[m].slot n<0)=True:=eq_true (hlt.mpr hc)
    push_cast -dsimp [hcv]
    repeat refine an ?_
    refine ⟨(m+1,j),⟨by omega,h2,fun t ht hlt2=>?_,h4⟩,by dsimp only;omega,wk⟩
    dsimp only at hlt2
    rcases Nat.lt_or_ge t m with q | q
    ·exact (jN).tr ((List.pairwise_iff_getElem.1 hR) t m ht hml q) hc
    ·have:t=m:=by omega
     subst this;exact hc
   | false =>
    have hcv:(V1 ks[m].slot n<0)=False:=eq_false (fun e=>by have h7:(jN).lt (zP.slot ks[m]) n=true:=hlt.mp e;rw[hc]at h7;cases h7)
    push_cast -dsimp [hcv]
    repeat refine an ?_
    refine ⟨(i,m),⟨by omega,by omega,h3,fun t ht hge=>?_⟩,by dsimp only;omega,wk⟩
    dsimp only at hge
    rcases Nat.lt_or_ge m t with q | q
    ·cases h9:(jN).lt (zP.slot ks[t]) n with
     | false=>rfl
     | true=>have:=(jN).tr ((List.pairwise_iff_getElem.1 hR) m t hml ht q) h9;rw[hc]at this;cases this
    ·have:t=m:=by omega
     subst this;exact hc
  ·have hij:i=j:=by omega
   subst hij
   have hrk:=Q9 (o:=jN) (key:=zP.slot) n ks i h2 h3 h4
   push_cast -dsimp [h]
   refine br (fun hx=>?_) (fun hx=>?_)
   ·have hx:i<ks.length:=by simpa using hx
    have hat:=Jg ks i hx
    have hh:=vt n hR hrk hx
    push_cast -dsimp [hx,hat]
    repeat refine an ?_
    refine cl ((u7 ks[i] n)) ?_;push_cast -dsimp
    have hcv:decide (V1 ks[i].slot n=0)=J3 zP.slot n ks:=by
     rw[hh]
     exact decide_eq_decide.2 (zez ks[i].slot n)
    push_cast -dsimp [hcv]
    exact dn (by push_cast -dsimp [zb,za,CLe,zd,hrk])
   ·have hx:¬i<ks.length:=by simpa using hx
    have hh:=GA n hR (by omega)
    push_cast -dsimp [hx]
    exact dn (by push_cast -dsimp [zb,za,CLe,zd,hrk,hh])
theorem yC (ks:List zP) (n:Int) (hl:ks.length<=100000) (hR:qF jN zP.slot ks):Fun Tryz.prog G 246 [.sl 4 (zF ks),.sc (.int .i64 n),.clo (.func 247) [] []] (.tup [.sc (.int .i64 (qq jN zP.slot n ks:Nat)),.sc (.bool (J3 zP.slot n ks))]) 0:=by
 refine fon Tryz.func246 ?_;dsimp only[Tryz.f246]
 push_cast -dsimp
 refine M4 [.sl 4 (zF ks),.sc (.int .i64 n),.clo (.func 268) [] [.row [.clo (.func 247) [] []]]] (N9 ks n hl hR) rfl ?_ ?_
 ·simp[j7,JD,C.frz,C.frzL]
 push_cast -dsimp
 exact dn
def zfA (n:Int) (ks:List zP):zP:=(jk zP.slot n ks).getD zmK
theorem zdB (w:qR) (n:Int) (hl:w.kept.length<=100000) (hR:qF jN zP.slot w.kept):Fun Tryz.prog G 221 [Vu w,.sc (.int .i64 n)] (.tup [.agg (Jb (zfA n w.kept)),.sc (.bool (xx n w.kept))]) 0:=by
 obtain ⟨_,_,h3,h4⟩:=ko n hR
 have h:=yC (G:=G) w.kept n hl hR
 cases hh:J3 zP.slot n w.kept with
 | false =>
  have hf:zfA n w.kept=zmK:=by unfold zfA;rw[(h4 hh).1];rfl
  have he:xx n w.kept=false:=hh
  rw[hh]at h
  refine fon Tryz.func221 ?_;dsimp only[Tryz.f221]
  push_cast -dsimp
  refine cl (h) ?_;push_cast -dsimp
  exact dn (by push_cast -dsimp [zb,za,CLe,zd,hf,he,zmK])
 | true =>
  obtain ⟨hlt,_,g2,_⟩:=h3 hh
  have hf:zfA n w.kept=w.kept[qq jN zP.slot n w.kept]:=by unfold zfA;rw[g2];rfl
  have he:xx n w.kept=true:=hh
  have hat:=Jg w.kept _ hlt
  rw[hh]at h
  refine fon Tryz.func221 ?_;dsimp only[Tryz.f221]
  push_cast -dsimp
  refine cl (h) ?_;push_cast -dsimp [hat]
  repeat refine an ?_
  exact dn (by push_cast -dsimp [zb,za,CLe,zd,hf,he])
end
end
section
open Go.RowKit Go.ChangeMaps Go.ChangeShapes Go.WideShapes Go.Deep Go.Joins
section
variable {H:Type} {enc:TypeId×Value->H} {P:Program} {W:World}
theorem jb.two {t:TypeId} {f1 f2:Field} {k1 k2:Nat} {Q1 Q2:List C->Prop} (hs:P.underlying t=some (.struct #[f1,f2])) (h1:jb enc P W f1.type k1 Q1) (h2:jb enc P W f2.type k2 Q2)
  (e1:f1.offset=0) (e2:P.cellsOf f1.type=k1) (e3:f2.offset=k1) (e4:P.cellsOf f2.type=k2) (e5:P.cellsOf t=k1+k2):jb enc P W t (k1+k2) fun row=>∃ a b,row=a++b/\Q1 a/\Q2 b:=fun fuel cs x hx=>by
 obtain ⟨ys,n',hn',hy,hlen,hyl,hf⟩:=DataW.trod_struct hs hx
 rw[e5]at hlen
 have g1:=hf 0 f1 rfl
 have g2:=hf 1 f2 rfl
 have hy2:ys.length=2:=by simpa using hyl
 rw[e1,e2,List.drop_zero,List.getElem?_eq_getElem (by omega)]at g1
 rw[e3,e4,List.getElem?_eq_getElem (by omega)]at g2
 obtain ⟨a,qa,la,la',ra⟩:=h1 _ _ _ g1
 obtain ⟨b,qb,lb,lb',rb⟩:=h2 _ _ _ g2
 refine ⟨a++b,⟨a,b,rfl,qa,qb⟩,by rw[List.length_append,la,lb],hlen,fun j c v h3 h4=>?_⟩
 rcases Nat.lt_or_ge j k1 with hj | hj
 ·rw[List.getElem?_append_left (by omega)]at h3
  exact ra j c v h3 (by rw[List.getElem?_take_of_lt hj];exact h4)
 ·rw[List.getElem?_append_right (by omega),la]at h3
  have hjl:=(List.getElem?_eq_some_iff.1 h3).1
  refine rb (j-k1) c v h3 ?_
  rw[List.getElem?_take_of_lt (by omega),List.getElem?_drop,show k1+(j-k1)=j by omega];exact h4
theorem zjw:jb enc Tryz.prog W 94 4 fun row=>∃ o:zP,row=Jb o/\o.data.length<=maxLen:=fun fuel cs x hx=>by
 obtain ⟨row,⟨hl,hq⟩,h1,h2,h3⟩:=jb.struct (W:=W) (enc:=enc) (Qs:=fun j c=>match j with | 0=>∃ n,c = .sc (.int .i64 n)/\(Lit.int .i64 n).wf=true | 1=>∃ n,c = .sc (.int .i64 n)/\(Lit.int .i64 n).wf=true | 2=>∃ b,c = .sc (.bool b) | 3=>∃ l:List UInt8,c = .str l/\l.length<=maxLen | _=>True) Tryz.underlying94 (by kernel_rfl) (by kernel_rfl) (fun j f hj=>by
  match j,hj with
  | 0,hj=>cases hj;exact Opn.int Tryz.underlying3
  | 1,hj=>cases hj;exact Opn.int Tryz.underlying3
  | 2,hj=>cases hj;exact Opn.bool Tryz.underlying4
  | 3,hj=>cases hj;exact Opn.str Tryz.underlying9
  | j+4,hj=>simp at hj) fuel cs x hx
 match row,h1,hq,h3 with
 | [c0,c1,c2,c3],_,hq,h3 =>
  obtain ⟨a,rfl,_⟩:=hq 0 c0 rfl
  obtain ⟨b,rfl,_⟩:=hq 1 c1 rfl
  obtain ⟨c,rfl⟩:=hq 2 c2 rfl
  obtain ⟨d,rfl,hd⟩:=hq 3 c3 rfl
  exact ⟨_,⟨⟨a,b,c,d⟩,rfl,hd⟩,rfl,h2,h3⟩
theorem zfN:Opn enc Tryz.prog W 25 fun c=>∃ xs:List zP,c = .sl 4 (zF xs)/\xs.length<=maxLen/\∀ x∈xs,x.data.length<=maxLen:=fun fuel cs x hx=>by
 obtain ⟨v,c,rfl,⟨rows,rfl,hl,hr⟩,h1,h2⟩:=Opn.slice (W:=W) (enc:=enc) Tryz.underlying25 (show Tryz.prog.cellsOf 94=4 by kernel_rfl) (by decide) zjw fuel cs x hx
 obtain ⟨xs,rfl,hq⟩:=HY hr
 exact ⟨v,_,rfl,⟨xs,rfl,by simpa using hl,hq⟩,h1,h2⟩
theorem zem:jb enc Tryz.prog W 27 2 fun row=>∃ (ks:List zP) (pool:List zn),row = [.sl 4 (zF ks),.sl 6 (zq pool)]/\ks.length<=maxLen/\pool.length<=maxLen:=fun fuel cs x hx=>by
 obtain ⟨row,⟨hl,hq⟩,h1,h2,h3⟩:=jb.struct (W:=W) (enc:=enc) (Qs:=fun j c=>match j with | 0=>∃ xs:List zP,c = .sl 4 (zF xs)/\xs.length<=maxLen/\∀ x∈xs,x.data.length<=maxLen | 1=>∃ xs:List zn,c = .sl 6 (zq xs)/\xs.length<=maxLen/\∀ x∈xs,zdt x | _=>True) Tryz.underlying27 (by kernel_rfl) (by kernel_rfl) (fun j f hj=>by
  match j,hj with
  | 0,hj=>cases hj;exact zfN
  | 1,hj=>cases hj;exact ur
  | j+2,hj=>simp at hj) fuel cs x hx
 match row,h1,hq,h3 with
 | [c0,c1],_,hq,h3 =>
  obtain ⟨a,rfl,ha,_⟩:=hq 0 c0 rfl
  obtain ⟨b,rfl,hb,_⟩:=hq 1 c1 rfl
  exact ⟨_,⟨a,b,rfl,ha,hb⟩,rfl,h2,h3⟩
theorem zdO:jb enc Tryz.prog W 29 6 fun row=>∃ w:qR,row=Nb w/\w.fs.xs.length<=maxLen:=fun fuel cs x hx=>by
 obtain ⟨row,⟨a,b,rfl,⟨f,rfl,hf,_⟩,⟨ks,pool,rfl,_⟩⟩,h1,h2,h3⟩:=jb.two (W:=W) (enc:=enc) Tryz.underlying29 zqq zem rfl (by kernel_rfl) rfl (by kernel_rfl) (by kernel_rfl) fuel cs x hx
 exact ⟨_,⟨⟨f,ks,pool⟩,rfl,hf⟩,h1,h2,h3⟩
end
end
section
open CA CB
open Go.RowKit
section
variable {G:zo}
theorem zT {ks:List zP}:∀ r∈zF ks,r.length=4:=fun r hr=>by
 obtain ⟨x,_,rfl⟩:=List.mem_map.1 hr;rfl
theorem zp {ks:List zP}:ji (zF ks):=fun r hr=>by
 obtain ⟨x,_,rfl⟩:=List.mem_map.1 hr;rfl
theorem zgi (w:qR) (k:zP) (hl:w.kept.length<=90000) (hR:qF jN zP.slot w.kept) (hn:xx k.slot w.kept=false):Fun Tryz.prog G 227 [Vu w,.agg (Jb k)] (Vu { w with kept:=qv k w.kept }) 0:=by
 obtain ⟨_,_,h3,h4⟩:=ko (o:=jN) k.slot hR
 have hll:(zF w.kept).length=w.kept.length:=List.length_map ..
 have hat:=yC (G:=G) w.kept k.slot (by omega) hR
 have hrl:=VN (o:=jN) (key:=zP.slot) k.slot w.kept
 have hn':J3 zP.slot k.slot w.kept=false:=hn
 rw[hn']at hat
 have hw:qv k w.kept=w.kept.take (qq jN zP.slot k.slot w.kept)++k :: w.kept.drop (qq jN zP.slot k.slot w.kept):=(h4 hn').2.2 k rfl
 have hset:zF (qv k w.kept)=(zF w.kept).take (qq jN zP.slot k.slot w.kept)++Jb k :: (zF w.kept).drop (qq jN zP.slot k.slot w.kept):=by rw[hw];simp
 have hsl:(zF (qv k w.kept)).length=(zF w.kept).length+1:=by rw[hset];simp;omega
 refine foF (fun i=>if i=2 then Xv [(0,.pure),(1,.pure),(2,.pure),(4,.pure),(5,.pure),(6,.pure),(3,.flt [3,4,5]),(7,.bar),(8,.pure),(9,.pure),(10,.bar)] else []) Tryz.func227 ?_;dsimp only[Tryz.f227]
 push_cast -dsimp
 refine cl (hat) ?_;push_cast -dsimp
 refine zla [] (kW (zF w.kept) zT zp (by omega)) (by decide) (by simp) (by push_cast -dsimp) (by push_cast -dsimp) (fun r bx' m hp=>?_)
 obtain ⟨rfl,⟨hne,c,h1,h2,rfl,rfl⟩ | ⟨he,⟨rfl,rfl⟩ | ⟨rfl,rfl⟩⟩⟩:=hp
 ·have hbl:=Yc zT h1
  have hre:∀ fp fo,C.reL fp fo (qH 4 (zF w.kept) c)=qH 4 (zF w.kept) c:=fun fp fo=>zC (zK zp)
  have hpos:=List.length_pos_iff.2 hne
  have hre2:∀ fp fo c,C.reL fp fo (qH 4 (zF (qv k w.kept)) c)=qH 4 (zF (qv k w.kept)) c:=fun fp fo c=>zC (zK zp)
  push_cast -dsimp [hre]
  refine jY [4] [0] (VO (e:=94) (zF w.kept) (Jb k) (qq jN zP.slot k.slot w.kept) c zT rfl zp rfl (by omega) (by omega) h1 h2) rfl (by decide) (by decide) (by simp) (by push_cast -dsimp) (by push_cast -dsimp [hre]) (fun r bx' m hp=>?_)
  rw[←hset]at hp
  obtain ⟨rfl,c',g1,g2,⟨rfl,rfl⟩ | ⟨rfl,rfl⟩⟩:=hp
  ·push_cast -dsimp [hre2,hre]
   exact ⟨[(4,94,4,zF (qv k w.kept),c')],[],zB rfl (by omega) g1 g2 zT zp,rfl,rfl,by push_cast -dsimp [zb,za,CLe,zd]⟩
  ·have hra:∀ fp fo,C.reL fp fo (List.replicate (c*4) .any)=List.replicate (c*4) .any:=fun fp fo=>zC (by simp[List.all_replicate,C.stayB])
   push_cast -dsimp [hre2,hre,hra]
   exact ⟨[(5,94,4,zF (qv k w.kept),c')],[],zB rfl (by omega) g1 g2 zT zp,rfl,rfl,by push_cast -dsimp [zb,za,CLe,zd]⟩
 ·have he:w.kept = []:=by simpa using he
  have hr0:qq jN zP.slot k.slot w.kept=0:=by rw[he];rfl
  have hs1:qv k w.kept = [k]:=by rw[he];rfl
  push_cast -dsimp [hr0]
  refine jY [] [0] (uM (e:=94) (Jb k) rfl rfl) rfl (by decide) (by decide) (by simp) (by push_cast -dsimp) (by push_cast -dsimp) (fun r bx' m hp=>?_)
  obtain ⟨rfl,c,g1,g2,rfl,rfl⟩:=hp
  have hre:∀ fp fo,C.reL fp fo (qH 4 [Jb k] c)=qH 4 [Jb k] c:=fun fp fo=>zC (zK (zp (ks:=[k])))
  push_cast -dsimp [hre]
  exact ⟨[(3,94,4,zF [k],c)],[],zB rfl (by omega) g1 g2 zT zp,rfl,rfl,by push_cast -dsimp [zb,za,CLe,zd,hs1]⟩
 ·have he:w.kept = []:=by simpa using he
  have hr0:qq jN zP.slot k.slot w.kept=0:=by rw[he];rfl
  have hs1:qv k w.kept = [k]:=by rw[he];rfl
  push_cast -dsimp [hr0]
  refine jY [3] [0] (VO (e:=94) [] (Jb k) 0 0 (fun r hr=>by cases hr) rfl (fun r hr=>by cases hr) rfl (by simp) (by simp) (by simp) (by simp)) rfl (by decide) (by decide) (by simp) (by push_cast -dsimp) (by push_cast -dsimp [qH]) (fun r bx' m hp=>?_)
  obtain ⟨rfl,c,g1,g2,hp⟩:=hp
  have hre:∀ fp fo,C.reL fp fo (qH 4 [Jb k] c)=qH 4 [Jb k] c:=fun fp fo=>zC (zK (zp (ks:=[k])))
  rcases hp with ⟨rfl,rfl⟩ | ⟨rfl,rfl⟩
  ·push_cast -dsimp [hre]
   exact ⟨[(3,94,4,zF [k],c)],[],zB rfl (Nat.lt_of_lt_of_le (Nat.zero_lt_succ _) g1) g1 g2 zT zp,rfl,rfl,by push_cast -dsimp [zb,za,CLe,zd,hs1]⟩
  ·push_cast -dsimp [hre]
   exact ⟨[(4,94,4,zF [k],c)],[],zB rfl (Nat.lt_of_lt_of_le (Nat.zero_lt_succ _) g1) g1 g2 zT zp,rfl,rfl,by push_cast -dsimp [zb,za,CLe,zd,hs1]⟩
theorem zdf (f:FsV) (hf:FsI f) (hs:FsS f) (p:List UInt8) (hp:p.length<=100000):Fun Tryz.prog G0 218 [.agg (fsC f),.str p] (.tup [.agg (jq (isV f p true).1),.agg (JG (isV f p true).2.1),.sc (.int .i64 (isV f p true).2.2)]) 0:=by
 have h1:=ua f hf hs p hp
 have h2:=jG (G:=G0) f (atV f p).1.ino (by have:=hs.len;omega) hf.rises
 have e1:(isV f p true).1=(atV f p).1:=rfl
 have e2:(isV f p true).2.1=ze (atV f p).1.ino f.xs:=rfl
 by_cases h0:(atV f p).2=0
 ·have h0':=eq_true h0
  cases hz:zt (atV f p).1.ino f.xs with
  | true =>
   have e3:(isV f p true).2.2=0:=by unfold isV;simp[h0,hz]
   rw[hz]at h2
   refine fof (fun i=>if i=4 then Xv [(0,.pure),(1,.pure),(2,.pure),(3,.flt [1,2]),(4,.flt [2]),(5,.pure)] else if i=6 then Xv [(0,.pure),(1,.pure),(2,.flt [1]),(3,.flt []),(4,.pure)] else if i=7 then Xv [(0,.pure),(1,.pure),(2,.flt [1]),(3,.flt []),(4,.pure)] else []) Tryz.func218 ?_;dsimp only[Tryz.f218]
   push_cast -dsimp
   refine cl (h1) ?_;push_cast -dsimp
   refine cl (h2) ?_;push_cast -dsimp [h0']
   exact dn (by push_cast -dsimp [zb,za,CLe,zd,e1,e2,e3])
  | false =>
   have e3:(isV f p true).2.2=1:=by unfold isV;simp[h0,hz]
   rw[hz]at h2
   refine fof (fun i=>if i=4 then Xv [(0,.pure),(1,.pure),(2,.pure),(3,.flt [1,2]),(4,.flt [2]),(5,.pure)] else if i=6 then Xv [(0,.pure),(1,.pure),(2,.flt [1]),(3,.flt []),(4,.pure)] else if i=7 then Xv [(0,.pure),(1,.pure),(2,.flt [1]),(3,.flt []),(4,.pure)] else []) Tryz.func218 ?_;dsimp only[Tryz.f218]
   push_cast -dsimp
   refine cl (h1) ?_;push_cast -dsimp
   refine cl (h2) ?_;push_cast -dsimp [h0']
   exact dn (by push_cast -dsimp [zb,za,CLe,zd,e1,e2,e3])
 ·have h0':=eq_false h0
  have e3:(isV f p true).2.2=(atV f p).2:=by unfold isV;simp[h0]
  refine fof (fun i=>if i=4 then Xv [(0,.pure),(1,.pure),(2,.pure),(3,.flt [1,2]),(4,.flt [2]),(5,.pure)] else if i=6 then Xv [(0,.pure),(1,.pure),(2,.flt [1]),(3,.flt []),(4,.pure)] else if i=7 then Xv [(0,.pure),(1,.pure),(2,.flt [1]),(3,.flt []),(4,.pure)] else []) Tryz.func218 ?_;dsimp only[Tryz.f218]
  push_cast -dsimp
  refine cl (h1) ?_;push_cast -dsimp
  refine cl (h2) ?_;push_cast -dsimp [h0',ite_self]
  exact dn (by push_cast -dsimp [zb,za,CLe,zd,e1,e2,e3])
end
end
section
open CA CB
open Go.RowKit
section
variable {G:zo}
theorem zin (k:zn):Fun Tryz.prog G 224 [.agg (JG k)] (.sc (.int .i64 k.ino)) 0:=by
 refine fon Tryz.func224 ?_;dsimp only[Tryz.f224]
 push_cast -dsimp
 exact dn
theorem uY (k:zn) (n:Int):Fun Tryz.prog G 249 [.agg (JG k),.sc (.int .i64 n),.row [.clo (.func 224) [] []]] (.sc (.int .i64 (V1 k.ino n))) 0:=by
 refine fon Tryz.func249 ?_;dsimp only[Tryz.f249]
 push_cast -dsimp
 refine cl (zin k) ?_;push_cast -dsimp
 refine cl (vD k.ino n) ?_;push_cast -dsimp
 exact dn
theorem MS (ks:List zn) (n:Int) (hl:ks.length<=100000) (hR:qF jN zn.ino ks) :
  Fun Tryz.prog G 118 [.sl 6 (zq ks),.sc (.int .i64 n),.clo (.func 249) [] [.row [.clo (.func 224) [] []]]] (.tup [.sc (.int .i64 (qq jN zn.ino n ks:Nat)),.sc (.bool (J3 zn.ino n ks))]) 0:=by
 refine fon Tryz.func118 ?_;dsimp only[Tryz.f118]
 push_cast -dsimp
 refine loop (fun p:Nat×Nat=>⟨[(0,.sl 6 (zq ks)),(1,.sc (.int .i64 n)),(2,.clo (.func 249) [] [.row [.clo (.func 224) [] []]]),(8,.sc (.int .i64 (ks.length:Nat))),(9,.sc (.int .i64 p.1)),(10,.sc (.int .i64 p.2))],[],0,0⟩)
  (fun p=>p.1<=p.2/\p.2<=ks.length/\(∀ t (h:t<ks.length),t<p.1->(jN).lt (zn.ino ks[t]) n=true)/\∀ t (h:t<ks.length),p.2<=t->(jN).lt (zn.ino ks[t]) n=false) (fun p=>p.2-p.1) (0,ks.length) ⟨Nat.zero_le _,Nat.le_refl _,fun t _ h=>by (simp at h),fun t h h'=>by (dsimp only at h';omega)⟩ ?_ ?_
 ·exact wk (by push_cast -dsimp [zb,za,CLe,zd,List.length_map])
 ·rintro ⟨i,j⟩ ⟨h1,h2,h3,h4⟩
  dsimp only at h1 h2 h3 h4 ⊢
  by_cases h:i<j
  ·obtain ⟨m,hm⟩:∃ m,m=(i+j) / 2:=⟨_,rfl⟩
   have hmi:((i:Int)+(j:Int)) / 2=(m:Int):=by omega
   have hml:m<ks.length:=by omega
   have hat:=qJ ks m hml
   have hlt:=(zcX ks[m].ino n)
   push_cast -dsimp [h,hmi,hat]
   repeat refine an ?_
   refine cl ((uY ks[m] n)) ?_;push_cast -dsimp
   cases hc:(jN).lt (zn.ino ks[m]) n with
   | true =>
    have hcv:(V1 ks[m].ino n<0)=True:=eq_true (hlt.mpr hc)
    push_cast -dsimp [hcv]
    repeat refine an ?_
    refine ⟨(m+1,j),⟨by omega,h2,fun t ht hlt2=>?_,h4⟩,by dsimp only;omega,wk⟩
    dsimp only at hlt2
    rcases Nat.lt_or_ge t m with q | q
    ·exact (jN).tr ((List.pairwise_iff_getElem.1 hR) t m ht hml q) hc
    ·have:t=m:=by omega
     subst this;exact hc
   | false =>
    have hcv:(V1 ks[m].ino n<0)=False:=eq_false (fun e=>by have h7:(jN).lt (zn.ino ks[m]) n=true:=hlt.mp e;rw[hc]at h7;cases h7)
    push_cast -dsimp [hcv]
    repeat refine an ?_
    refine ⟨(i,m),⟨by omega,by omega,h3,fun t ht hge=>?_⟩,by dsimp only;omega,wk⟩
    dsimp only at hge
    rcases Nat.lt_or_ge m t with q | q
    ·cases h9:(jN).lt (zn.ino ks[t]) n with
     | false=>rfl
     | true=>have:=(jN).tr ((List.pairwise_iff_getElem.1 hR) m t hml ht q) h9;rw[hc]at this;cases this
    ·have:t=m:=by omega
     subst this;exact hc
  ·have hij:i=j:=by omega
   subst hij
   have hrk:=Q9 (o:=jN) (key:=zn.ino) n ks i h2 h3 h4
   push_cast -dsimp [h]
   refine br (fun hx=>?_) (fun hx=>?_)
   ·have hx:i<ks.length:=by simpa using hx
    have hat:=qJ ks i hx
    have hh:=vt n hR hrk hx
    push_cast -dsimp [hx,hat]
    repeat refine an ?_
    refine cl ((uY ks[i] n)) ?_;push_cast -dsimp
    have hcv:decide (V1 ks[i].ino n=0)=J3 zn.ino n ks:=by
     rw[hh]
     exact decide_eq_decide.2 (zez ks[i].ino n)
    push_cast -dsimp [hcv]
    exact dn (by push_cast -dsimp [zb,za,CLe,zd,hrk])
   ·have hx:¬i<ks.length:=by simpa using hx
    have hh:=GA n hR (by omega)
    push_cast -dsimp [hx]
    exact dn (by push_cast -dsimp [zb,za,CLe,zd,hrk,hh])
theorem zli (ks:List zn) (n:Int) (hl:ks.length<=100000) (hR:qF jN zn.ino ks):Fun Tryz.prog G 223 [.sl 6 (zq ks),.sc (.int .i64 n),.clo (.func 224) [] []] (.tup [.sc (.int .i64 (qq jN zn.ino n ks:Nat)),.sc (.bool (J3 zn.ino n ks))]) 0:=by
 refine fon Tryz.func223 ?_;dsimp only[Tryz.f223]
 push_cast -dsimp
 refine M4 [.sl 6 (zq ks),.sc (.int .i64 n),.clo (.func 249) [] [.row [.clo (.func 224) [] []]]] (MS ks n hl hR) rfl ?_ ?_
 ·simp[j7,JD,C.frz,C.frzL]
 push_cast -dsimp
 exact dn
end
end
section
open CA CB
open Go.RowKit
section
variable {G:zo}
abbrev znP (w:qR) (kc pc:C):C:=.agg [.sc (.int .i64 w.fs.maxI),.sc (.int .i64 w.fs.maxB),.sc (.int .i64 w.fs.next),.sl 6 (zq w.fs.xs),kc,pc]
def zq7 (w:qR) (k:zP) (B:List C) (pn pc:Nat) (r:C) (bx':List (List C)) (m:Nat):Prop:=
 m=0/\∃ (c':Nat) (Ls:List (List C)),(Ls = []∨(∃ X,Ls = [X]/\(X.all C.stayB)=true)∨∃ X Y,Ls = [X,Y]/\(X.all C.stayB)=true/\(Y.all C.stayB)=true)/\(zF (qv k w.kept)).length<=c'/\c'<=9223372036854775807/\r=znP w (.bs (4+Ls.length) 0 4 (zF (qv k w.kept)).length c') (.bs 0 0 6 pn pc) /\
  bx'=B :: [.any,.any,.any,.any,.any,.any] :: [.any,.any,.any,.any] :: [.any,.any,.any,.any,.any,.any] :: (Ls++[qH 4 (zF (qv k w.kept)) c'])
theorem Ut (w:qR) (k:zP) (B:List C) (pn pc:Nat) (hB:(B.all C.stayB)=true) (hl:w.kept.length<=90000) (hR:qF jN zP.slot w.kept) (hn:xx k.slot w.kept=false):Xh Tryz.prog G 227 [znP w (.sl 4 (zF w.kept)) (.bs 0 0 6 pn pc),.agg (Jb k)] [B] 0 (zq7 w k B pn pc):=by
 obtain ⟨_,_,h3,h4⟩:=ko (o:=jN) k.slot hR
 have hll:(zF w.kept).length=w.kept.length:=List.length_map ..
 have hat:=yC (G:=G) w.kept k.slot (by omega) hR
 have hrl:=VN (o:=jN) (key:=zP.slot) k.slot w.kept
 have hn':J3 zP.slot k.slot w.kept=false:=hn
 rw[hn']at hat
 have hw:qv k w.kept=w.kept.take (qq jN zP.slot k.slot w.kept)++k :: w.kept.drop (qq jN zP.slot k.slot w.kept):=(h4 hn').2.2 k rfl
 have hset:zF (qv k w.kept)=(zF w.kept).take (qq jN zP.slot k.slot w.kept)++Jb k :: (zF w.kept).drop (qq jN zP.slot k.slot w.kept):=by rw[hw];simp
 have hsl:(zF (qv k w.kept)).length=(zF w.kept).length+1:=by rw[hset];simp;omega
 refine foX (fun i=>if i=2 then Xv [(0,.pure),(1,.pure),(2,.pure),(4,.pure),(5,.pure),(6,.pure),(3,.flt [3,4,5]),(7,.bar),(8,.pure),(9,.pure),(10,.bar)] else []) Tryz.func227 ?_;dsimp only[Tryz.f227]
 have hBr:∀ fp fo,C.reL fp fo B=B:=fun fp fo=>zC hB
 push_cast -dsimp
 refine cl (hat) ?_;push_cast -dsimp
 refine zla [] (kW (zF w.kept) zT zp (by omega)) (by decide) (by simp) (by push_cast -dsimp) (by push_cast -dsimp) (fun r bx' m hp=>?_)
 obtain ⟨rfl,⟨hne,c,h1,h2,rfl,rfl⟩ | ⟨he,⟨rfl,rfl⟩ | ⟨rfl,rfl⟩⟩⟩:=hp
 ·have hbl:=Yc zT h1
  have hre:∀ fp fo,C.reL fp fo (qH 4 (zF w.kept) c)=qH 4 (zF w.kept) c:=fun fp fo=>zC (zK zp)
  have hpos:=List.length_pos_iff.2 hne
  have hre2:∀ fp fo c,C.reL fp fo (qH 4 (zF (qv k w.kept)) c)=qH 4 (zF (qv k w.kept)) c:=fun fp fo c=>zC (zK zp)
  push_cast -dsimp [hre,hBr]
  refine jY [5] [0] (VO (e:=94) (zF w.kept) (Jb k) (qq jN zP.slot k.slot w.kept) c zT rfl zp rfl (by omega) (by omega) h1 h2) rfl (by decide) (by decide) (by simp) (by push_cast -dsimp [hBr]) (by push_cast -dsimp [hre,hBr]) (fun r bx' m hp=>?_)
  rw[←hset]at hp
  obtain ⟨rfl,c',g1,g2,⟨rfl,rfl⟩ | ⟨rfl,rfl⟩⟩:=hp
  ·push_cast -dsimp [hre2,hre,hBr]
   refine ⟨_,_,0,⟨⟨rfl,c',[[]],.inr (.inl ⟨[],rfl,rfl⟩),g1,g2,rfl,rfl⟩,by simp⟩,[],rfl,rfl,?_,by push_cast -dsimp [zb,za,CLe,zd]⟩
   push_cast -dsimp [zb,za,CLe,zd]
   exact ⟨zR hB,zR (zK zp)⟩
  ·have hra:∀ fp fo,C.reL fp fo (List.replicate (c*4) .any)=List.replicate (c*4) .any:=fun fp fo=>zC (by simp[List.all_replicate,C.stayB])
   push_cast -dsimp [hre2,hre,hra,hBr]
   refine ⟨_,_,0,⟨⟨rfl,c',[[],List.replicate (c*4) .any],.inr (.inr ⟨[],_,rfl,rfl,by simp[List.all_replicate,C.stayB]⟩),g1,g2,rfl,rfl⟩,by simp⟩,[],rfl,rfl,?_,by push_cast -dsimp [zb,za,CLe,zd]⟩
   push_cast -dsimp [zb,za,CLe,zd]
   exact ⟨zR hB,zR (by simp[List.all_replicate,C.stayB]),zR (zK zp)⟩
 ·have he:w.kept = []:=by simpa using he
  have hr0:qq jN zP.slot k.slot w.kept=0:=by rw[he];rfl
  have hs1:qv k w.kept = [k]:=by rw[he];rfl
  push_cast -dsimp [hr0]
  refine jY [] [0] (uM (e:=94) (Jb k) rfl rfl) rfl (by decide) (by decide) (by simp) (by push_cast -dsimp) (by push_cast -dsimp) (fun r bx' m hp=>?_)
  obtain ⟨rfl,c,g1,g2,rfl,rfl⟩:=hp
  have hre:∀ fp fo,C.reL fp fo (qH 4 [Jb k] c)=qH 4 [Jb k] c:=fun fp fo=>zC (zK (zp (ks:=[k])))
  push_cast -dsimp [hre,hBr]
  refine ⟨znP w (.bs 4 0 4 1 c) (.bs 0 0 6 pn pc),B :: [.any,.any,.any,.any,.any,.any] :: [.any,.any,.any,.any] :: [.any,.any,.any,.any,.any,.any] :: ([]++[qH 4 [Jb k] c]),0,⟨⟨rfl,c,[],.inl rfl,by rw[hs1];exact g1,g2,by rw[hs1];rfl,by rw[hs1];rfl⟩,by simp⟩,[],rfl,rfl,?_,by push_cast -dsimp [zb,za,CLe,zd]⟩
  push_cast -dsimp [zb,za,CLe,zd]
  exact ⟨zR hB,zR (zK (zp (ks:=[k])))⟩
 ·have he:w.kept = []:=by simpa using he
  have hr0:qq jN zP.slot k.slot w.kept=0:=by rw[he];rfl
  have hs1:qv k w.kept = [k]:=by rw[he];rfl
  push_cast -dsimp [hr0]
  refine jY [4] [0] (VO (e:=94) [] (Jb k) 0 0 (fun r hr=>by cases hr) rfl (fun r hr=>by cases hr) rfl (by simp) (by simp) (by simp) (by simp)) rfl (by decide) (by decide) (by simp) (by push_cast -dsimp) (by push_cast -dsimp [qH]) (fun r bx' m hp=>?_)
  obtain ⟨rfl,c,g1,g2,hp⟩:=hp
  have hre:∀ fp fo,C.reL fp fo (qH 4 [Jb k] c)=qH 4 [Jb k] c:=fun fp fo=>zC (zK (zp (ks:=[k])))
  rcases hp with ⟨rfl,rfl⟩ | ⟨rfl,rfl⟩
  ·push_cast -dsimp [hre,hBr]
   refine ⟨znP w (.bs 4 0 4 1 c) (.bs 0 0 6 pn pc),B :: [.any,.any,.any,.any,.any,.any] :: [.any,.any,.any,.any] :: [.any,.any,.any,.any,.any,.any] :: ([]++[qH 4 [Jb k] c]),0,⟨⟨rfl,c,[],.inl rfl,by rw[hs1];exact g1,g2,by rw[hs1];rfl,by rw[hs1];rfl⟩,by simp⟩,[],rfl,rfl,?_,by push_cast -dsimp [zb,za,CLe,zd]⟩
   push_cast -dsimp [zb,za,CLe,zd]
   exact ⟨zR hB,zR (zK (zp (ks:=[k])))⟩
  ·push_cast -dsimp [hre,hBr]
   refine ⟨znP w (.bs 5 0 4 1 c) (.bs 0 0 6 pn pc),B :: [.any,.any,.any,.any,.any,.any] :: [.any,.any,.any,.any] :: [.any,.any,.any,.any,.any,.any] :: ([[]]++[qH 4 [Jb k] c]),0,⟨⟨rfl,c,[[]],.inr (.inl ⟨[],rfl,rfl⟩),by rw[hs1];exact g1,g2,by rw[hs1];rfl,by rw[hs1];rfl⟩,by simp⟩,[],rfl,rfl,?_,by push_cast -dsimp [zb,za,CLe,zd]⟩
   push_cast -dsimp [zb,za,CLe,zd]
   exact ⟨zR hB,zR (zK (zp (ks:=[k])))⟩
end
end
section
open CA CB
open Go.RowKit
theorem qX {bx:List (List C)} {a b:Nat×TypeId×Nat×List (List C)×Nat} (h1:zbG [a] bx) (h2:zbG [b] bx) (hne:a.1≠b.1):zbG [a,b] bx:=⟨by simp[hne],fun x hx=>by
 rcases List.mem_cons.1 hx with rfl | hx
 ·exact h1.2 _ List.mem_cons_self
 ·exact h2.2 _ hx⟩
theorem zbb {f:FsV} (hf:FsI f) {s:zV} (hs:zI f s):(zk f s).xs.length<=f.xs.length:=by
 have hi:=zI.ino hf hs
 have hl:=ZM (F:=zg s.name) hf.rises hs.has
 unfold zk
 split
 ·show (zU _ _).length<=_
  exact Nat.le_trans VQ (by rw[hl];exact Nat.le_refl _)
 ·show (jd _ _).length<=_
  rw[QX (show qh (jl s.dir (zg s.name) f.xs) from Jn hf.rises) ?_,hl]
  ·exact Nat.le_refl _
  ·show zt (ze s.ino f.xs).ino (jl _ _ _)=true
   rw[(zh hi).2.2,JP hs.has];exact hi
theorem zkE {xs:List zn} (h:qh xs):qF jN zn.ino xs:=List.Pairwise.imp (fun {a b} h=>by show decide (a.ino<b.ino)=true;exact decide_eq_true h) h
theorem zkD (x:zn):∀ xs:List zn,ZE x xs=Hj jN zn.ino x xs
 | []=>rfl
 | y :: r=>by
  unfold ZE Hj
  rw[zkD x r]
  have e:jN.lt x.ino y.ino=decide (x.ino<y.ino):=rfl
  rw[e]
  by_cases h:x.ino<y.ino
  ·rw[if_pos h,if_pos (decide_eq_true h)]
  ·rw[if_neg h,if_neg (by simpa using h)]
theorem zmB {x:zn} {xs:List zn} (hR:qh xs) (h:∀ y∈xs,y.ino≠x.ino):jd x xs=xs.take (qq jN zn.ino x.ino xs)++x :: xs.drop (qq jN zn.ino x.ino xs):=by
 have h1:zU x.ino xs=xs:=List.filter_eq_self.2 fun y hy=>by simpa using h y hy
 have h2:J3 zn.ino x.ino xs=false:=by
  unfold J3
  rw[List.any_eq_false]
  intro y hy
  simpa using h y hy
 obtain ⟨_,_,_,h4⟩:=ko (o:=jN) x.ino (zkE hR)
 unfold jd
 rw[h1,zkD]
 exact (h4 h2).2.2 x rfl
theorem ziR (w:qR) (hw:yW w) (hs:FsS w.fs) (hk:w.kept.length<=90000) (hp:w.pool.length<=90000) (n:Int) (s:zV) (hsp:zI w.fs s) (he:(ze s.ino w.fs.xs).es = []):Fun Tryz.prog G0 196 [Vu w,.sc (.int .i64 n),.agg (jq s)] (.tup [Vu (Js w n s).1,.sc (.int .i64 (Js w n s).2)]) 0:=by
 have hf:=hw.fs
 have hlen:=hs.len
 have hino:=hsp.ino hf
 have h1:=zdB (G:=G0) w n (by omega) hw.kept
 cases hh:xx n w.kept with
 | true =>
  have e:Js w n s=(w,13):=by unfold Js;rw[hh];rfl
  rw[hh]at h1
  refine fof (fun i=>if i=10 then Xv [(0,.pure),(1,.pure),(2,.pure),(4,.pure),(5,.pure),(6,.pure),(3,.flt [3,4,5]),(7,.bar),(8,.pure),(9,.pure),(10,.bar)] else []) Tryz.func196 ?_;dsimp only[Tryz.f196]
  push_cast -dsimp
  refine cl (h1) ?_;push_cast -dsimp
  exact dn (by push_cast -dsimp [zb,za,CLe,zd,e])
 | false =>
  rw[hh]at h1
  have hg:=jG (G:=G0) w.fs s.ino (by omega) hf.rises
  rw[hino]at hg
  have hne:s.dir≠s.ino:=fun e=>by
   have:=hsp.there
   rw[e,he]at this;cases this
  have hu:=zaN w.fs hf hs s hsp hne
  have hul:=zbb hf hsp
  have hg2:=jG (G:=G0) (zk w.fs s) s.ino (by omega) (Uw hf hsp he).rises
  rw[XW hsp.has hino]at hg2
  by_cases hz:(ze s.ino w.fs.xs).links=1
  ·rw[if_pos (show (ze s.ino w.fs.xs).links-1=0 by omega)]at hg2
   simp only[decide_true,Bool.not_true,Bool.false_and]at hg2
   have hxi:=(zh hino).2.2
   have hno:∀ y∈w.pool,y.ino≠s.ino:=fun y hy e=>by
    have:=(hw.apart y hy).1
    rw[e,hino]at this;cases this
   have hnk:J3 zn.ino s.ino w.pool=false:=by
    unfold J3
    rw[List.any_eq_false]
    intro y hy
    simpa using hno y hy
   have e:Js w n s=(⟨zk w.fs s,qv ⟨n,s.ino,false,[]⟩ w.kept,jd { ze s.ino w.fs.xs with links:=0,parent:=0 } w.pool⟩,0):=by unfold Js;rw[hh,if_pos hz];rfl
   have hset:=zmB (x:={ ze s.ino w.fs.xs with links:=0,parent:=0 }) hw.pool (fun y hy=>by rw[show ({ ze s.ino w.fs.xs with links:=0,parent:=0 }:zn).ino=(ze s.ino w.fs.xs).ino from rfl,hxi];exact hno y hy)
   rw[show ({ ze s.ino w.fs.xs with links:=0,parent:=0 }:zn).ino=s.ino from hxi]at hset
   have hat:=zli (G:=G0) w.pool s.ino (by omega) (zkE hw.pool)
   rw[hnk]at hat
   have hll:(zq w.pool).length=w.pool.length:=List.length_map ..
   have hrl:=VN (o:=jN) (key:=zn.ino) s.ino w.pool
   generalize qq jN zn.ino s.ino w.pool=r at *
   generalize hpl:jd { ze s.ino w.fs.xs with links:=0,parent:=0 } w.pool=pl at *
   have hpc:zq pl=(zq w.pool).take r++[.sc (.int .i64 s.ino),.sc (.int .i64 (ze s.ino w.fs.xs).kind),.sc (.int .i64 0),.str (ze s.ino w.fs.xs).data,.sc (.int .i64 0),.sl 2 (z6 (ze s.ino w.fs.xs).es)] :: (zq w.pool).drop r:=by rw[hset];simp[hxi]
   have hpl1:(zq pl).length=(zq w.pool).length+1:=by rw[hpc];simp;omega
   have hre2:∀ fp fo c,C.reL fp fo (qH 6 (zq pl) c)=qH 6 (zq pl) c:=fun fp fo c=>zC (zK zw)
   have hre4:∀ fp fo c,C.reL fp fo (qH 4 (zF (qv ⟨n,s.ino,false,[]⟩ w.kept)) c)=qH 4 (zF (qv ⟨n,s.ino,false,[]⟩ w.kept)) c:=fun fp fo c=>zC (zK zp)
   have hkp:0<(zF (qv ⟨n,s.ino,false,[]⟩ w.kept)).length:=by rw[List.length_map,qv,HX];omega
   refine foF (fun i=>if i=10 then Xv [(0,.pure),(1,.pure),(2,.pure),(4,.pure),(5,.pure),(6,.pure),(3,.flt [3,4,5]),(7,.bar),(8,.pure),(9,.pure),(10,.bar)] else []) Tryz.func196 ?_;dsimp only[Tryz.f196]
   push_cast -dsimp
   refine cl (h1) ?_;push_cast -dsimp
   refine cl (hg) ?_;push_cast -dsimp
   refine cl (hu) ?_;push_cast -dsimp
   refine cl (hg2) ?_;push_cast -dsimp
   rw[hxi]
   refine cl (hat) ?_;push_cast -dsimp
   refine zla [] (ZF (zq w.pool) zS zw (by omega)) (by decide) (by simp) (by push_cast -dsimp) (by push_cast -dsimp) (fun r0 bx' m hp=>?_)
   obtain ⟨rfl,⟨hne',c,c1,c2,rfl,rfl⟩ | ⟨hnil,⟨rfl,rfl⟩ | ⟨rfl,rfl⟩⟩⟩:=hp
   ·have hbl:=Yc zS c1
    have hre:∀ fp fo,C.reL fp fo (qH 6 (zq w.pool) c)=qH 6 (zq w.pool) c:=fun fp fo=>zC (zK zw)
    push_cast -dsimp [hre]
    refine jY [7] [0] (VW (e:=53) (zq w.pool) [.sc (.int .i64 s.ino),.sc (.int .i64 (ze s.ino w.fs.xs).kind),.sc (.int .i64 0),.str (ze s.ino w.fs.xs).data,.sc (.int .i64 0),.sl 2 (z6 (ze s.ino w.fs.xs).es)] r c zS rfl zw rfl (by omega) (by omega) c1 c2) rfl (by decide) (by decide) (by simp) (by push_cast -dsimp) (by push_cast -dsimp [hre]) (fun r1 bx' m hp=>?_)
    rw[←hpc]at hp
    obtain ⟨rfl,c',g1,g2,⟨rfl,rfl⟩ | ⟨rfl,rfl⟩⟩:=hp
    ·push_cast -dsimp [hre2,hre]
     refine jY [7] [] (Ut (G:=G0) { w with fs:=zk w.fs s } ⟨n,s.ino,false,[]⟩ (qH 6 (zq pl) c') (zq pl).length c' (zK zw) hk hw.kept hh) rfl (by decide) (by decide) (by simp) (by push_cast -dsimp) (by push_cast -dsimp [hre2]) (fun r2 bx' m hp=>?_)
     obtain ⟨rfl,c3,Ls,hLs,k1,k2,rfl,rfl⟩:=hp
     rcases hLs with rfl | ⟨X,rfl,hX⟩ | ⟨X,Y,rfl,hX,hY⟩
     ·push_cast -dsimp [hre2,hre4]
      exact ⟨[(11,94,4,zF (qv ⟨n,s.ino,false,[]⟩ w.kept),c3),(7,53,6,zq pl,c')],[],qX (zB rfl (Nat.lt_of_lt_of_le hkp k1) k1 k2 zT zp) (zB rfl (by omega) g1 g2 zS zw) (show (11:Nat)≠7 by decide),rfl,rfl,by push_cast -dsimp [zb,za,CLe,zd,e,false_and,if_false]⟩
     ·have hXr:∀ fp fo,C.reL fp fo X=X:=fun fp fo=>zC hX
      push_cast -dsimp [hre2,hre4,hXr]
      exact ⟨[(12,94,4,zF (qv ⟨n,s.ino,false,[]⟩ w.kept),c3),(7,53,6,zq pl,c')],[],qX (zB rfl (Nat.lt_of_lt_of_le hkp k1) k1 k2 zT zp) (zB rfl (by omega) g1 g2 zS zw) (show (12:Nat)≠7 by decide),rfl,rfl,by push_cast -dsimp [zb,za,CLe,zd,e,false_and,if_false]⟩
     ·have hXr:∀ fp fo,C.reL fp fo X=X:=fun fp fo=>zC hX
      have hYr:∀ fp fo,C.reL fp fo Y=Y:=fun fp fo=>zC hY
      push_cast -dsimp [hre2,hre4,hXr,hYr]
      exact ⟨[(13,94,4,zF (qv ⟨n,s.ino,false,[]⟩ w.kept),c3),(7,53,6,zq pl,c')],[],qX (zB rfl (Nat.lt_of_lt_of_le hkp k1) k1 k2 zT zp) (zB rfl (by omega) g1 g2 zS zw) (show (13:Nat)≠7 by decide),rfl,rfl,by push_cast -dsimp [zb,za,CLe,zd,e,false_and,if_false]⟩
    ·have hra:∀ fp fo,C.reL fp fo (List.replicate (c*6) .any)=List.replicate (c*6) .any:=fun fp fo=>zC (by simp[List.all_replicate,C.stayB])
     push_cast -dsimp [hre2,hre,hra]
     refine jY [8] [] (Ut (G:=G0) { w with fs:=zk w.fs s } ⟨n,s.ino,false,[]⟩ (qH 6 (zq pl) c') (zq pl).length c' (zK zw) hk hw.kept hh) rfl (by decide) (by decide) (by simp) (by push_cast -dsimp) (by push_cast -dsimp [hre2,hra]) (fun r2 bx' m hp=>?_)
     obtain ⟨rfl,c3,Ls,hLs,k1,k2,rfl,rfl⟩:=hp
     rcases hLs with rfl | ⟨X,rfl,hX⟩ | ⟨X,Y,rfl,hX,hY⟩
     ·push_cast -dsimp [hre2,hre4,hra]
      exact ⟨[(12,94,4,zF (qv ⟨n,s.ino,false,[]⟩ w.kept),c3),(8,53,6,zq pl,c')],[],qX (zB rfl (Nat.lt_of_lt_of_le hkp k1) k1 k2 zT zp) (zB rfl (by omega) g1 g2 zS zw) (show (12:Nat)≠8 by decide),rfl,rfl,by push_cast -dsimp [zb,za,CLe,zd,e,false_and,if_false]⟩
     ·have hXr:∀ fp fo,C.reL fp fo X=X:=fun fp fo=>zC hX
      push_cast -dsimp [hre2,hre4,hra,hXr]
      exact ⟨[(13,94,4,zF (qv ⟨n,s.ino,false,[]⟩ w.kept),c3),(8,53,6,zq pl,c')],[],qX (zB rfl (Nat.lt_of_lt_of_le hkp k1) k1 k2 zT zp) (zB rfl (by omega) g1 g2 zS zw) (show (13:Nat)≠8 by decide),rfl,rfl,by push_cast -dsimp [zb,za,CLe,zd,e,false_and,if_false]⟩
     ·have hXr:∀ fp fo,C.reL fp fo X=X:=fun fp fo=>zC hX
      have hYr:∀ fp fo,C.reL fp fo Y=Y:=fun fp fo=>zC hY
      push_cast -dsimp [hre2,hre4,hra,hXr,hYr]
      exact ⟨[(14,94,4,zF (qv ⟨n,s.ino,false,[]⟩ w.kept),c3),(8,53,6,zq pl,c')],[],qX (zB rfl (Nat.lt_of_lt_of_le hkp k1) k1 k2 zT zp) (zB rfl (by omega) g1 g2 zS zw) (show (14:Nat)≠8 by decide),rfl,rfl,by push_cast -dsimp [zb,za,CLe,zd,e,false_and,if_false]⟩
   ·have hpe:w.pool = []:=by simpa using hnil
    have hr0:r=0:=by rw[hpe]at hrl;exact Nat.le_zero.1 hrl
    subst hr0
    have hq:zq pl = [[.sc (.int .i64 s.ino),.sc (.int .i64 (ze s.ino w.fs.xs).kind),.sc (.int .i64 0),.str (ze s.ino w.fs.xs).data,.sc (.int .i64 0),.sl 2 (z6 (ze s.ino w.fs.xs).es)]]:=by rw[hpc,hpe];rfl
    push_cast -dsimp
    refine jY [] [0] (uu (e:=53) [.sc (.int .i64 s.ino),.sc (.int .i64 (ze s.ino w.fs.xs).kind),.sc (.int .i64 0),.str (ze s.ino w.fs.xs).data,.sc (.int .i64 0),.sl 2 (z6 (ze s.ino w.fs.xs).es)] rfl rfl) rfl (by decide) (by decide) (by simp) (by push_cast -dsimp) (by push_cast -dsimp) (fun r1 bx' m hp=>?_)
    have hp:m=0/\∃ c,(zq pl).length<=c/\c<=9223372036854775807/\r1 = .bs 0 0 6 (zq pl).length c/\bx' = [qH 6 (zq pl) c]:=by rw[hq];exact hp
    obtain ⟨rfl,c',g1,g2,rfl,rfl⟩:=hp
    push_cast -dsimp [hre2]
    refine jY [6] [] (Ut (G:=G0) { w with fs:=zk w.fs s } ⟨n,s.ino,false,[]⟩ (qH 6 (zq pl) c') (zq pl).length c' (zK zw) hk hw.kept hh) rfl (by decide) (by decide) (by simp) (by push_cast -dsimp) (by push_cast -dsimp [hre2]) (fun r2 bx' m hp=>?_)
    obtain ⟨rfl,c3,Ls,hLs,k1,k2,rfl,rfl⟩:=hp
    rcases hLs with rfl | ⟨X,rfl,hX⟩ | ⟨X,Y,rfl,hX,hY⟩
    ·push_cast -dsimp [hre2,hre4]
     exact ⟨[(10,94,4,zF (qv ⟨n,s.ino,false,[]⟩ w.kept),c3),(6,53,6,zq pl,c')],[],qX (zB rfl (Nat.lt_of_lt_of_le hkp k1) k1 k2 zT zp) (zB rfl (by omega) g1 g2 zS zw) (show (10:Nat)≠6 by decide),rfl,rfl,by push_cast -dsimp [zb,za,CLe,zd,e,false_and,if_false]⟩
    ·have hXr:∀ fp fo,C.reL fp fo X=X:=fun fp fo=>zC hX
     push_cast -dsimp [hre2,hre4,hXr]
     exact ⟨[(11,94,4,zF (qv ⟨n,s.ino,false,[]⟩ w.kept),c3),(6,53,6,zq pl,c')],[],qX (zB rfl (Nat.lt_of_lt_of_le hkp k1) k1 k2 zT zp) (zB rfl (by omega) g1 g2 zS zw) (show (11:Nat)≠6 by decide),rfl,rfl,by push_cast -dsimp [zb,za,CLe,zd,e,false_and,if_false]⟩
    ·have hXr:∀ fp fo,C.reL fp fo X=X:=fun fp fo=>zC hX
     have hYr:∀ fp fo,C.reL fp fo Y=Y:=fun fp fo=>zC hY
     push_cast -dsimp [hre2,hre4,hXr,hYr]
     exact ⟨[(12,94,4,zF (qv ⟨n,s.ino,false,[]⟩ w.kept),c3),(6,53,6,zq pl,c')],[],qX (zB rfl (Nat.lt_of_lt_of_le hkp k1) k1 k2 zT zp) (zB rfl (by omega) g1 g2 zS zw) (show (12:Nat)≠6 by decide),rfl,rfl,by push_cast -dsimp [zb,za,CLe,zd,e,false_and,if_false]⟩
   ·have hpe:w.pool = []:=by simpa using hnil
    have hr0:r=0:=by rw[hpe]at hrl;exact Nat.le_zero.1 hrl
    subst hr0
    have hq:zq pl = [[.sc (.int .i64 s.ino),.sc (.int .i64 (ze s.ino w.fs.xs).kind),.sc (.int .i64 0),.str (ze s.ino w.fs.xs).data,.sc (.int .i64 0),.sl 2 (z6 (ze s.ino w.fs.xs).es)]]:=by rw[hpc,hpe];rfl
    push_cast -dsimp
    refine jY [6] [0] (VW (e:=53) [] [.sc (.int .i64 s.ino),.sc (.int .i64 (ze s.ino w.fs.xs).kind),.sc (.int .i64 0),.str (ze s.ino w.fs.xs).data,.sc (.int .i64 0),.sl 2 (z6 (ze s.ino w.fs.xs).es)] 0 0 (fun r hr=>by cases hr) rfl (fun r hr=>by cases hr) rfl (by simp) (by simp) (by simp) (by simp)) rfl (by decide) (by decide) (by simp) (by push_cast -dsimp) (by push_cast -dsimp [qH]) (fun r1 bx' m hp=>?_)
    have hp:zqW 6 (0*6) (zq pl) r1 bx' m:=by rw[hq];exact hp
    obtain ⟨rfl,c',g1,g2,⟨rfl,rfl⟩ | ⟨rfl,rfl⟩⟩:=hp
    ·push_cast -dsimp [hre2]
     refine jY [6] [] (Ut (G:=G0) { w with fs:=zk w.fs s } ⟨n,s.ino,false,[]⟩ (qH 6 (zq pl) c') (zq pl).length c' (zK zw) hk hw.kept hh) rfl (by decide) (by decide) (by simp) (by push_cast -dsimp) (by push_cast -dsimp [hre2]) (fun r2 bx' m hp=>?_)
     obtain ⟨rfl,c3,Ls,hLs,k1,k2,rfl,rfl⟩:=hp
     rcases hLs with rfl | ⟨X,rfl,hX⟩ | ⟨X,Y,rfl,hX,hY⟩
     ·push_cast -dsimp [hre2,hre4]
      exact ⟨[(10,94,4,zF (qv ⟨n,s.ino,false,[]⟩ w.kept),c3),(6,53,6,zq pl,c')],[],qX (zB rfl (Nat.lt_of_lt_of_le hkp k1) k1 k2 zT zp) (zB rfl (by omega) g1 g2 zS zw) (show (10:Nat)≠6 by decide),rfl,rfl,by push_cast -dsimp [zb,za,CLe,zd,e,false_and,if_false]⟩
     ·have hXr:∀ fp fo,C.reL fp fo X=X:=fun fp fo=>zC hX
      push_cast -dsimp [hre2,hre4,hXr]
      exact ⟨[(11,94,4,zF (qv ⟨n,s.ino,false,[]⟩ w.kept),c3),(6,53,6,zq pl,c')],[],qX (zB rfl (Nat.lt_of_lt_of_le hkp k1) k1 k2 zT zp) (zB rfl (by omega) g1 g2 zS zw) (show (11:Nat)≠6 by decide),rfl,rfl,by push_cast -dsimp [zb,za,CLe,zd,e,false_and,if_false]⟩
     ·have hXr:∀ fp fo,C.reL fp fo X=X:=fun fp fo=>zC hX
      have hYr:∀ fp fo,C.reL fp fo Y=Y:=fun fp fo=>zC hY
      push_cast -dsimp [hre2,hre4,hXr,hYr]
      exact ⟨[(12,94,4,zF (qv ⟨n,s.ino,false,[]⟩ w.kept),c3),(6,53,6,zq pl,c')],[],qX (zB rfl (Nat.lt_of_lt_of_le hkp k1) k1 k2 zT zp) (zB rfl (by omega) g1 g2 zS zw) (show (12:Nat)≠6 by decide),rfl,rfl,by push_cast -dsimp [zb,za,CLe,zd,e,false_and,if_false]⟩
    ·push_cast -dsimp [hre2]
     refine jY [7] [] (Ut (G:=G0) { w with fs:=zk w.fs s } ⟨n,s.ino,false,[]⟩ (qH 6 (zq pl) c') (zq pl).length c' (zK zw) hk hw.kept hh) rfl (by decide) (by decide) (by simp) (by push_cast -dsimp) (by push_cast -dsimp [hre2]) (fun r2 bx' m hp=>?_)
     obtain ⟨rfl,c3,Ls,hLs,k1,k2,rfl,rfl⟩:=hp
     rcases hLs with rfl | ⟨X,rfl,hX⟩ | ⟨X,Y,rfl,hX,hY⟩
     ·push_cast -dsimp [hre2,hre4]
      exact ⟨[(11,94,4,zF (qv ⟨n,s.ino,false,[]⟩ w.kept),c3),(7,53,6,zq pl,c')],[],qX (zB rfl (Nat.lt_of_lt_of_le hkp k1) k1 k2 zT zp) (zB rfl (by omega) g1 g2 zS zw) (show (11:Nat)≠7 by decide),rfl,rfl,by push_cast -dsimp [zb,za,CLe,zd,e,false_and,if_false]⟩
     ·have hXr:∀ fp fo,C.reL fp fo X=X:=fun fp fo=>zC hX
      push_cast -dsimp [hre2,hre4,hXr]
      exact ⟨[(12,94,4,zF (qv ⟨n,s.ino,false,[]⟩ w.kept),c3),(7,53,6,zq pl,c')],[],qX (zB rfl (Nat.lt_of_lt_of_le hkp k1) k1 k2 zT zp) (zB rfl (by omega) g1 g2 zS zw) (show (12:Nat)≠7 by decide),rfl,rfl,by push_cast -dsimp [zb,za,CLe,zd,e,false_and,if_false]⟩
     ·have hXr:∀ fp fo,C.reL fp fo X=X:=fun fp fo=>zC hX
      have hYr:∀ fp fo,C.reL fp fo Y=Y:=fun fp fo=>zC hY
      push_cast -dsimp [hre2,hre4,hXr,hYr]
      exact ⟨[(13,94,4,zF (qv ⟨n,s.ino,false,[]⟩ w.kept),c3),(7,53,6,zq pl,c')],[],qX (zB rfl (Nat.lt_of_lt_of_le hkp k1) k1 k2 zT zp) (zB rfl (by omega) g1 g2 zS zw) (show (13:Nat)≠7 by decide),rfl,rfl,by push_cast -dsimp [zb,za,CLe,zd,e,false_and,if_false]⟩
  ·have hz2:¬(ze s.ino w.fs.xs).links-1=0:=by omega
   rw[if_neg hz2,hino]at hg2
   have e:Js w n s=({ w with fs:=zk w.fs s,kept:=qv ⟨n,s.ino,false,[]⟩ w.kept },0):=by unfold Js;rw[hh,if_neg hz];rfl
   have hwi:=zgi (G:=G0) { w with fs:=zk w.fs s } ⟨n,s.ino,false,[]⟩ hk hw.kept hh
   refine fof (fun i=>if i=10 then Xv [(0,.pure),(1,.pure),(2,.pure),(4,.pure),(5,.pure),(6,.pure),(3,.flt [3,4,5]),(7,.bar),(8,.pure),(9,.pure),(10,.bar)] else []) Tryz.func196 ?_;dsimp only[Tryz.f196]
   push_cast -dsimp
   refine cl (h1) ?_;push_cast -dsimp
   refine cl (hg) ?_;push_cast -dsimp
   refine cl (hu) ?_;push_cast -dsimp
   refine cl (hg2) ?_;push_cast -dsimp
   refine cl (hwi) ?_;push_cast -dsimp
   exact dn (by push_cast -dsimp [zb,za,CLe,zd,e])
end
section
open CA CB
open Go.RowKit
end
section
open CA CB
open Go.RowKit
structure zpu (w:qR):Prop where
 fs:FsS w.fs
 next:zrN w.fs
 kept:w.kept.length<=10000
 pool:w.pool.length<=10000
end
section
open CA CB
open Go.RowKit
end
section
open CA CB
open Go.RowKit
theorem zci (w:qR) (hw:yW w) (hs:zpu w) (o:OpV) (s:zV) (hsp:zI w.fs s) (he:(ze s.ino w.fs.xs).es = []):Mc Tryz.prog G0 195 [.agg (jq s),.ptr 0 0,.ptr 1 0] [Nb w,opL o] 0 (.tup [Vu (Js w o.slot s).1,.sc (.int .i64 (Js w o.slot s).2)]) [Nb w,opL o] 0:=by
 have h:=ziR w hw hs.fs (by have:=hs.kept;omega) (by have:=hs.pool;omega) o.slot s hsp he
 unfold opL
 refine foB (fun _=>[]) Tryz.func195 ?_;dsimp only[Tryz.f195]
 push_cast -dsimp
 refine cl (h) ?_;push_cast -dsimp
 exact ⟨[],rfl,rfl,by push_cast -dsimp [zb,za,CLe,zd],by push_cast -dsimp [zb,za,CLe,zd]⟩
theorem zhc (w:qR) (hw:yW w) (hs:zpu w) (o:OpV) (ho:zhN o) (pa:Jr o.a=true):Mc Tryz.prog G0 194 [Vu w,.str o.a,.clo (.func 195) [] [.ptr 0 0,.ptr 1 0]] [Nb w,opL o] 0 (.tup [Vu (qY w o).1,.sc (.int .i64 (qY w o).2)]) [Nb w,opL o] 0:=by
 have h1:=zdf w.fs hw.fs hs.fs o.a ho.1
 by_cases h0:(isV w.fs o.a true).2.2=0
 ·have h0':=eq_true h0
  obtain ⟨t1,t2⟩:=u0 hw.fs pa h0
  by_cases hes:(isV w.fs o.a true).2.1.es = []
  ·have hel:(0<(z6 (isV w.fs o.a true).2.1.es).length)=False:=eq_false (by rw[hes];simp)
   have he:(ze (isV w.fs o.a true).1.ino w.fs.xs).es = []:=by rw[←t2];exact hes
   have hd:=zci w hw hs o (isV w.fs o.a true).1 t1 he
   have e:qY w o=Js w o.slot (isV w.fs o.a true).1:=by unfold qY;simp[h0,hes]
   unfold opL at hd ⊢
   refine foB (fun _=>[]) Tryz.func194 ?_;dsimp only[Tryz.f194]
   push_cast -dsimp
   refine cl (h1) ?_;push_cast -dsimp [h0',hel]
   refine Qz [0,1] [] hd rfl (by decide) (by decide) (by simp) (by push_cast -dsimp) (by push_cast -dsimp) ?_
   push_cast -dsimp
   exact ⟨[],rfl,rfl,by push_cast -dsimp [zb,za,CLe,zd],by push_cast -dsimp [zb,za,CLe,zd,e]⟩
  ·have hel:(0<(z6 (isV w.fs o.a true).2.1.es).length)=True:=eq_true (by rw[List.length_map];exact List.length_pos_iff.2 hes)
   have e:qY w o=(w,5):=by unfold qY;simp[h0,hes]
   unfold opL
   refine foB (fun _=>[]) Tryz.func194 ?_;dsimp only[Tryz.f194]
   push_cast -dsimp
   refine cl (h1) ?_;push_cast -dsimp [h0',hel]
   exact ⟨[],rfl,rfl,by push_cast -dsimp [zb,za,CLe,zd],by push_cast -dsimp [zb,za,CLe,zd,e]⟩
 ·have h0':=eq_false h0
  have e:qY w o=(w,(isV w.fs o.a true).2.2):=by unfold qY;simp[h0]
  unfold opL
  refine foB (fun _=>[]) Tryz.func194 ?_;dsimp only[Tryz.f194]
  push_cast -dsimp
  refine cl (h1) ?_;push_cast -dsimp [h0']
  exact ⟨[],rfl,rfl,by push_cast -dsimp [zb,za,CLe,zd],by push_cast -dsimp [zb,za,CLe,zd,e]⟩
theorem zel (w:qR) (hw:yW w) (hs:zpu w) (o:OpV) (ho:zhN o) (pa:Jr o.a=true):Fun Tryz.prog G0 193 [Vu w,.agg (opL o)] (.tup [Vu (qY w o).1,.sc (.int .i64 (qY w o).2)]) 0:=by
 have h:=zhc w hw hs o ho pa
 unfold opL at h ⊢
 refine fon Tryz.func193 ?_;dsimp only[Tryz.f193]
 push_cast -dsimp
 refine Qz [0,1] [] h rfl (by decide) (by decide) (by simp) (by push_cast -dsimp) (by push_cast -dsimp) ?_
 push_cast -dsimp
 exact dn
end
section
open Go.RowKit
section
variable {G:zo}
abbrev zob:List C:=[.clo (.func 186) [] [],.clo (.func 188) [] [],.clo (.func 189) [] [],.clo (.func 190) [] [],.clo (.func 191) [] [],.clo (.func 192) [] [],.clo (.func 193) [] [],.clo (.func 197) [] [],.clo (.func 200) [] [],.clo (.func 201) [] []]
theorem zdp:Fun Tryz.prog G 160 [] (.mo 0 211 (.int .i64 [1,2,3,4,5,6,7,8,9,10]) zob) 1:=by
 refine fon Tryz.func160 ?_;dsimp only[Tryz.f160]
 push_cast -dsimp [kz,km,Option.map_none,List.nil_append,List.cons_append,reduceIte,Int.reduceEq]
 exact ⟨[.inl 0],rfl,rfl,by push_cast -dsimp [zb,za,CLe,zd]⟩
end
end
section
open CA CB
open Go.RowKit
theorem Fun.g0 {P:Program} {G':zo} {f:FuncId} {args:List C} {r:C} {n:Nat} (h:Fun P G0 f args r n):Fun P G' f args r n:=⟨h.1,fun R vs hg hv=>h.2 R vs (xL R) hv⟩
end
section
open Go.RowKit
section
variable {G:zo}
theorem NL (o:OpV):Fun Tryz.prog G 121 [.agg (opL o)] (.sc (.bool (decide (o.kind=3∨o.kind=7)))) 0:=by
 unfold opL
 by_cases h:o.kind=3
 ·have h':=eq_true h
  refine fon Tryz.func121 ?_;dsimp only[Tryz.f121]
  push_cast -dsimp [h']
  exact dn (by push_cast -dsimp [zb,za,CLe,zd,h',true_or,decide_true])
 ·have h':=eq_false h
  refine fon Tryz.func121 ?_;dsimp only[Tryz.f121]
  push_cast -dsimp [h']
  exact dn (by push_cast -dsimp [zb,za,CLe,zd,h',false_or])
end
end
section
open Go.RowKit
abbrev zp1 (d:zH):List C:=[.sc (.int .i64 d.w.fs.maxI),.sc (.int .i64 d.w.fs.maxB),.sc (.int .i64 d.w.fs.next),.sl 6 (zq d.w.fs.xs),.sl 4 (zF d.w.kept),.sl 6 (zq d.w.pool),.sl 5 (d.ops.map opL),.sl 1 (zJ d.diags),.sc (.int .i64 d.status),.sc (.int .i64 d.slot)]
abbrev kF (d:zH):C:=.agg (zp1 d)
section
variable {G:zo}
end
end
section
open CA CB
open Go.RowKit
theorem zan {α κ:Type} [DecidableEq κ] {key:α->κ} {n:κ} {xs:List α} {i:Nat} (h:i<xs.length) (h0:J3 key n (xs.take i)=false) :
  (key xs[i]=n->jk key n xs=some xs[i])/\(key xs[i]≠n->J3 key n (xs.take (i+1))=false):=by
 have e:xs=xs.take i++xs[i] :: xs.drop (i+1):=by rw[←List.drop_eq_getElem_cons h,List.take_append_drop]
 refine ⟨fun hk=>?_,fun hk=>?_⟩
 ·have q:jk key n xs=jk key n (xs.take i++xs[i] :: xs.drop (i+1)):=congrArg _ e
  rw[q]
  unfold jk
  unfold J3 at h0
  rw[List.any_eq_false]at h0
  rw[List.find?_append,List.find?_eq_none.2 fun x hx=>h0 x hx,Option.none_or,List.find?_cons,decide_eq_true hk]
 ·unfold J3 at h0 ⊢
  rw[List.take_add_one,List.getElem?_eq_getElem h,List.any_append,h0]
  simp[hk]
theorem zhp {α κ:Type} [DecidableEq κ] {key:α->κ} {n:κ} {xs:List α} (h0:J3 key n xs=false):jk key n xs=none:=by
 rw[qP]at h0
 cases h:jk key n xs with
 | none=>rfl
 | some x=>rw[h]at h0;cases h0
theorem zbB {α κ:Type} [DecidableEq κ] {key:α->κ} {n:κ} {xs:List α} {i:Nat} (h:i<xs.length) :
  JX key n (xs.take (i+1))=if key xs[i]=n then JX key n (xs.take i) else JX key n (xs.take i)++[xs[i]]:=by
 unfold JX
 rw[List.take_add_one,List.getElem?_eq_getElem h,List.filter_append]
 by_cases hk:key xs[i]=n<;>simp[hk]
section
variable {G:zo}
theorem Mx (es:List z8) (n:List UInt8) (hl:es.length<=100000):Fun Tryz.prog G 164 [.sl 2 (z6 es),.str n] (.tup [.sc (.int .i64 (zG n es)),.sc (.bool (Xl n es))]) 0:=by
 have hll:(z6 es).length=es.length:=List.length_map ..
 refine fon Tryz.func164 ?_;dsimp only[Tryz.f164]
 push_cast -dsimp
 refine loop (fun i:Nat=>⟨[(0,.sl 2 (z6 es)),(1,.str n),(6,.sc (.int .i64 i))],[],0,0⟩) (fun i=>i<=es.length/\J3 z8.name n (es.take i)=false) (fun i=>es.length-i) 0 ⟨Nat.zero_le _,rfl⟩ ?_ ?_
 ·exact wk
 ·rintro i ⟨h1,h2⟩
  by_cases h:i<es.length
  ·have g1:=Jd es i h
   obtain ⟨q1,q2⟩:=zan h h2
   by_cases he:es[i].name=n
   ·have q:=q1 he
    have e1:Xl n es=true:=by unfold Xl;rw[qP,q];rfl
    have e2:zG n es=es[i].ino:=by unfold zG;rw[q]
    push_cast -dsimp [hll,h,g1,he]
    repeat refine an ?_
    exact dn (by push_cast -dsimp [zb,za,CLe,zd,e1,e2])
   ·push_cast -dsimp [hll,h,g1,he]
    repeat refine an ?_
    exact ⟨i+1,⟨h,q2 he⟩,by omega,wk⟩
  ·rw[List.take_of_length_le (by omega)]at h2
   have e1:Xl n es=false:=h2
   have e2:zG n es=0:=by unfold zG;rw[zhp h2]
   push_cast -dsimp [hll,h]
   exact dn (by push_cast -dsimp [zb,za,CLe,zd,e1,e2])
theorem MB (es:List z8) (n:List UInt8) (hl:es.length<=90000):Fun Tryz.prog G 137 [.sl 2 (z6 es),.str n] (.own 0 100 2 (z6 (zg n es))) 1:=by
 have hll:(z6 es).length=es.length:=List.length_map ..
 refine fon Tryz.func137 ?_;dsimp only[Tryz.f137]
 push_cast -dsimp
 refine loop (fun i:Nat=>⟨[(0,.sl 2 (z6 es)),(1,.str n),(5,.own 0 100 2 (z6 (zg n (es.take i)))),(6,.sc (.int .i64 i))],[],1,0⟩) (fun i=>i<=es.length) (fun i=>es.length-i) 0 (Nat.zero_le _) ?_ ?_
 ·exact wks [.inr (100,2)] (by push_cast -dsimp [zb,za,CLe,zd,zg,JX,List.filter_nil])
 ·intro i h1
  by_cases h:i<es.length
  ·have g1:=Jd es i h
   have ht:zg n (es.take (i+1))=if es[i].name=n then zg n (es.take i) else zg n (es.take i)++[es[i]]:=zbB h
   have hle:(zg n (es.take i)).length<=i:=Nat.le_trans (N8 n _) (by simp;omega)
   by_cases hc:es[i].name=n
   ·rw[if_pos hc]at ht
    push_cast -dsimp [hll,h,g1,hc]
    repeat refine an ?_
    exact ⟨i+1,h,by omega,wks [.inl 0] (by push_cast -dsimp [zb,za,CLe,zd,ht])⟩
   ·rw[if_neg hc]at ht
    push_cast -dsimp [hll,h,g1,hc]
    repeat refine an ?_
    exact ⟨i+1,h,by omega,wks [.inl 0] (by push_cast -dsimp [zb,za,CLe,zd,ht,List.map_append])⟩
  ·rw[List.take_of_length_le (by omega)]
   push_cast -dsimp [hll,h]
   exact ⟨[.inl 0],rfl,rfl,by push_cast -dsimp [zb,za,CLe,zd]⟩
end
theorem znf (f:FsV) (hf:FsI f) (hs:FsS f) (p:List UInt8) (hp:p.length<=100000):Fun Tryz.prog G0 135 [.agg (fsC f),.str p] (.tup [.agg (jq (atV f p).1),.sc (.int .i64 (atV f p).2)]) 0:=by
 have hpl:=Vk p (by omega)
 have hlen:=hs.len
 have hnl:(zi p).length<=100000:=by have:=qf p;omega
 cases hpp:J2 p with
 | false =>
  have e:atV f p=(qd,9):=by unfold atV;rw[hpp];rfl
  unfold Yn at hpl
  rw[hpp]at hpl
  refine fof (fun i=>if i=14 then [false,false,false,false,false,false,false,false,true] else []) Tryz.func135 ?_;dsimp only[Tryz.f135]
  push_cast -dsimp
  refine cl (hpl) ?_;push_cast -dsimp
  exact dn (by push_cast -dsimp [zb,za,CLe,zd,e,qd])
 | true =>
  have e:atV f p=atW f.xs (zi p) ⟨0,[],1⟩:=by unfold atV;rw[hpp];rfl
  unfold Yn at hpl
  rw[hpp,if_pos rfl]at hpl
  generalize zi p=ns at hpl hnl e
  have hsl:(zJ ns).length=ns.length:=List.length_map ..
  refine fof (fun i=>if i=14 then [false,false,false,false,false,false,false,false,true] else []) Tryz.func135 ?_;dsimp only[Tryz.f135]
  push_cast -dsimp
  refine cl (hpl) ?_;push_cast -dsimp
  refine loop (fun x:Nat×zV=>⟨[(1,.str p),(2,.ptr 0 0),(4,.ptr 1 0),(6,.own 0 9 1 (zJ ns)),(8,.ptr 2 0),(9,.sc (.int .i64 x.1))],[fsC f,[.sc (.int .i64 0),.str [],.sc (.int .i64 0)],jq x.2],1,0⟩)
   (fun x=>x.1<=ns.length/\atW f.xs ns ⟨0,[],1⟩=atW f.xs (ns.drop x.1) x.2/\(x.2.ino≠0->zt x.2.ino f.xs=true)) (fun x=>ns.length-x.1) (0,⟨0,[],1⟩) ⟨Nat.zero_le _,rfl,fun _=>hf.root⟩ ?_ ?_
  ·exact wks [.inl 0] (by push_cast -dsimp [zb,za,CLe,zd,hsl])
  rintro ⟨k,s⟩ ⟨hk,hat,hin⟩
  simp only at hk hat hin ⊢
  by_cases hlt:k<ns.length
  ·have gs:=xg hlt
   have hdr:ns.drop k=ns[k] :: ns.drop (k+1):=List.drop_eq_getElem_cons hlt
   obtain ⟨nm,hnm⟩:∃ nm,ns[k]=nm:=⟨_,rfl⟩
   rw[hnm]at gs hdr
   by_cases h0:s.ino=0
   ·have hr:atV f p=(qd,1):=by rw[e,hat,hdr];unfold atW;rw[if_pos h0]
    push_cast -dsimp [hsl,hlt,h0]
    exact dn (by push_cast -dsimp [zb,za,CLe,zd,hr,qd])
   ·have hh:=hin h0
    have hg:=qN (G:=G0) f s.ino (by omega)
    have hgg:=zh hh
    rw[hh]at hg
    by_cases hk2:(ze s.ino f.xs).kind=2
    ·have hfd:=Mx (G:=G0) (ze s.ino f.xs).es nm (by have:=hs.es hh;omega)
     have hnx:atW f.xs ns ⟨0,[],1⟩=atW f.xs (ns.drop (k+1)) ⟨(ze s.ino f.xs).ino,nm,zG nm (ze s.ino f.xs).es⟩:=by
      rw[hat,hdr]
      conv=>lhs;unfold atW
      rw[if_neg h0,if_neg (by simp[hk2])]
     have hin2:zG nm (ze s.ino f.xs).es≠0->zt (zG nm (ze s.ino f.xs).es) f.xs=true:=fun hne=>by
      refine HL hf hh ?_
      unfold Xl
      rw[qP]
      cases hq:jk z8.name nm (ze s.ino f.xs).es with
      | some e=>rfl
      | none=>unfold zG at hne;rw[hq]at hne;exact absurd rfl hne
     push_cast -dsimp [hsl,hlt,h0]
     refine cl (hg) ?_;push_cast -dsimp [hk2,gs]
     repeat refine an ?_
     refine cl (hfd) ?_;push_cast -dsimp [gs]
     repeat refine an ?_
     exact ⟨(k+1,⟨(ze s.ino f.xs).ino,nm,zG nm (ze s.ino f.xs).es⟩),⟨hlt,hnx,hin2⟩,by simp only;omega,wks [.inl 0]⟩
    ·have hr:atV f p=(qd,3):=by rw[e,hat,hdr];unfold atW;rw[if_neg h0,if_pos hk2]
     push_cast -dsimp [hsl,hlt,h0]
     refine cl (hg) ?_;push_cast -dsimp [hk2]
     exact dn (by push_cast -dsimp [zb,za,CLe,zd,hr,qd])
  ·have hd0:ns.drop k = []:=List.drop_of_length_le (by omega)
   have hr:atV f p=(s,0):=by rw[e,hat,hd0];rfl
   push_cast -dsimp [hsl,hlt]
   exact dn (by push_cast -dsimp [zb,za,CLe,zd,hr])
end
section
open CA CB
open Go.RowKit
theorem zji {f:C} {x:zn} (hx:x.es = []) (R:Env) (vs:List Value) (h:zu R zE [f,.agg [.sc (.int .i64 x.ino),.sc (.int .i64 x.kind),.sc (.int .i64 x.links),.str x.data,.sc (.int .i64 x.parent),.sc (.slice none 0 0)]] vs):zu R zE [f,.agg (JG x)] vs:=by
 obtain ⟨v1,us1,rfl,h1,h⟩:=zf.1 h
 obtain ⟨v2,us2,rfl,h2,h⟩:=zf.1 h
 refine zf.2 ⟨_,_,rfl,h1,zf.2 ⟨_,_,rfl,?_,h⟩⟩
 obtain ⟨ws,rfl,hw⟩:=jS.1 h2
 obtain ⟨w1,t1,e1,g1,hw⟩:=zf.1 hw
 obtain ⟨w2,t2,e2,g2,hw⟩:=zf.1 hw
 obtain ⟨w3,t3,e3,g3,hw⟩:=zf.1 hw
 obtain ⟨w4,t4,e4,g4,hw⟩:=zf.1 hw
 obtain ⟨w5,t5,e5,g5,hw⟩:=zf.1 hw
 obtain ⟨w6,t6,e6,g6,hw⟩:=zf.1 hw
 refine jS.2 ⟨ws,rfl,?_⟩
 have g6':Rep R zE (.sl 2 (z6 x.es)) w6:=by rw[hx];exact zid g6
 rw[e1,e2,e3,e4,e5,e6]
 exact zf.2 ⟨_,_,rfl,g1,zf.2 ⟨_,_,rfl,g2,zf.2 ⟨_,_,rfl,g3,zf.2 ⟨_,_,rfl,g4,zf.2 ⟨_,_,rfl,g5,zf.2 ⟨_,_,rfl,g6',hw⟩⟩⟩⟩⟩⟩
theorem zgO {G:zo} (f:FsV) (x:zn) (hx:x.es = []) (hl:f.xs.length<=90000) :
  Fun Tryz.prog G 46 [.agg (fsC f),.agg [.sc (.int .i64 x.ino),.sc (.int .i64 x.kind),.sc (.int .i64 x.links),.str x.data,.sc (.int .i64 x.parent),.sc (.slice none 0 0)]] (.agg [.sc (.int .i64 f.maxI),.sc (.int .i64 f.maxB),.sc (.int .i64 f.next),.own 0 53 6 (zq (jd x f.xs))]) 1:=
 (Q0 f x hl).argsLe (zji hx)
theorem x7 (f:FsV) (hf:FsI f) (hs:FsS f) (s:zV) (hsp:zI f s):Fun Tryz.prog G0 85 [.agg (fsC f),.agg (jq s)] (.agg (fsC (zk f s))) 0:=by
 have hlen:=hs.len
 have hi:=hsp.ino hf
 have hdl:(jl s.dir (zg s.name) f.xs).length=f.xs.length:=ZM hf.rises hsp.has
 have hg:=qN (G:=G0) f s.dir (by omega)
 have hg2:=qN (G:=G0) f s.ino (by omega)
 rw[hsp.has]at hg
 rw[hi]at hg2
 have hes:=hs.es hsp.has
 have hw:=MB (G:=G0) (ze s.dir f.xs).es s.name (by omega)
 have hd1:=Q0 (G:=G0) f (jQ (ze s.dir f.xs) (zg s.name (ze s.dir f.xs).es)) (by omega)
 have hd2:=Q0 (G:=G0) ⟨f.maxI,f.maxB,f.next,jl s.dir (zg s.name) f.xs⟩ { ze s.ino f.xs with links:=(ze s.ino f.xs).links-1 } (by simp only;omega)
 have hd3:=NK (G:=G0) ⟨f.maxI,f.maxB,f.next,jl s.dir (zg s.name) f.xs⟩ s.ino (by simp only;omega)
 have hll:=vR hf hs hi
 by_cases hz:(ze s.ino f.xs).links-1=0
 ·have e:zk f s=⟨f.maxI,f.maxB,f.next,zU s.ino (jl s.dir (zg s.name) f.xs)⟩:=by unfold zk;rw[if_pos hz]
  unfold jl at hd3 e
  have hz':=eq_true hz
  refine fon Tryz.func85 ?_;dsimp only[Tryz.f85]
  push_cast -dsimp
  refine cl (hg) ?_;push_cast -dsimp
  refine cl (hg2) ?_;push_cast -dsimp
  refine cl (hw) ?_;push_cast -dsimp
  repeat refine an ?_
  refine cl (hd1) ?_;push_cast -dsimp [hz']
  refine cl (hd3) ?_;push_cast -dsimp
  exact dn (by push_cast -dsimp [zb,za,CLe,zd,e])
 ·have e:zk f s=⟨f.maxI,f.maxB,f.next,jd { ze s.ino f.xs with links:=(ze s.ino f.xs).links-1 } (jl s.dir (zg s.name) f.xs)⟩:=by unfold zk;rw[if_neg hz]
  unfold jl at hd2 e
  have hz':=eq_false hz
  refine fon Tryz.func85 ?_;dsimp only[Tryz.f85]
  push_cast -dsimp
  refine cl (hg) ?_;push_cast -dsimp
  refine cl (hg2) ?_;push_cast -dsimp
  refine cl (hw) ?_;push_cast -dsimp
  repeat refine an ?_
  refine cl (hd1) ?_;push_cast -dsimp [hz']
  refine cl (hd2) ?_;push_cast -dsimp
  exact dn (by push_cast -dsimp [zb,za,CLe,zd,e])
end
section
open CA CB
open Go.RowKit
theorem Ue {ks:List zP} {i:Nat} (h:i<ks.length):jH (ks.take (i+1))=ks[i].slot:=by
 have q:(ks.take (i+1)).getLast?=some ks[i]:=by
  rw[List.getLast?_eq_getElem?,show (ks.take (i+1)).length-1=i by rw[List.length_take];omega,List.getElem?_take_of_lt (by omega),List.getElem?_eq_getElem h]
 unfold jH
 rw[q]
section
variable {G:zo}
theorem Ui (w:qR):Fun Tryz.prog G 94 [Vu w] (.agg [.sc (.int .i64 0),.sc (.int .i64 0),.sc (.int .i64 0),.sl 6 (zq w.pool)]) 0:=by
 refine fon Tryz.func94 ?_;dsimp only[Tryz.f94]
 push_cast -dsimp
 exact dn
theorem U5 (w:qR) (hk:w.kept.length<=100000) (hR:qF jN zP.slot w.kept) (hp:∀ k∈w.kept,1<=k.slot):Fun Tryz.prog G 23 [Vu w] (.sc (.int .i64 (jH w.kept))) 0:=by
 obtain ⟨f,ks,pool⟩:=w
 have hk:ks.length<=100000:=hk
 have hll:(zF ks).length=ks.length:=List.length_map ..
 show Fun Tryz.prog G 23 [Vu ⟨f,ks,pool⟩] (.sc (.int .i64 (jH ks))) 0
 have h0:jH []=0:=rfl
 refine fon Tryz.func23 ?_;dsimp only[Tryz.f23]
 push_cast -dsimp
 refine loop (fun i:Nat=>⟨[(1,.ptr 0 0),(3,.sc (.int .i64 (jH (ks.take i)))),(4,.sc (.int .i64 i))],[Nb ⟨f,ks,pool⟩],0,0⟩) (fun i=>i<=ks.length) (fun i=>ks.length-i) 0 (Nat.zero_le _) ?_ ?_
 ·exact wk (by push_cast -dsimp [zb,za,CLe,zd,List.take_zero,h0])
 ·intro i hi
  by_cases h:i<ks.length
  ·have g1:=Jg ks i h
   have e1:jH (ks.take (i+1))=ks[i].slot:=Ue h
   have e2:(if ks[i].slot>jH (ks.take i) then ks[i].slot else jH (ks.take i))=ks[i].slot:=by
    suffices hle:jH (ks.take i)<=ks[i].slot by split<;>omega
    rcases Nat.eq_zero_or_pos i with rfl | hpos
    ·have:=hp _ (List.getElem_mem h)
     show (0:Int)<=_
     omega
    ·obtain ⟨j,rfl⟩:∃ j,i=j+1:=⟨i-1,by omega⟩
     have hj:j<ks.length:=by omega
     rw[Ue hj]
     have:=(List.pairwise_iff_getElem.1 hR) j (j+1) hj h (by omega)
     have:ks[j].slot<ks[j+1].slot:=of_decide_eq_true this
     omega
   push_cast -dsimp [hll,h,g1]
   repeat refine an ?_
   exact ⟨i+1,h,by omega,wk (by push_cast -dsimp [zb,za,CLe,zd,e1,e2])⟩
  ·rw[List.take_of_length_le (by omega)]
   push_cast -dsimp [hll,h]
   exact dn
end
end
section
open CA CB
open Go.RowKit
end
section
open CA CB
open Go.RowKit
def zsh (n:Int):List C:=[.sc (.int .i64 n)]
abbrev zra (l:List Int):List (List C):=l.map zsh
theorem y0 (l:List Int):(zra l).length=l.length:=List.length_map _
theorem ze2 (l:List Int) (n:Int):zra l++[[.sc (.int .i64 n)]]=zra (l++[n]):=by simp[zsh]
attribute [push_cast] y0 ze2
abbrev zgN (l:List OpV):List (List C):=l.map opL
theorem xK (l:List OpV):(zgN l).length=l.length:=List.length_map _
theorem zen (l:List OpV) (k:Nat) (h:k<l.length):(zgN l)[k]?=some (opL (l[k]'h)):=by rw[List.getElem?_map,List.getElem?_eq_getElem h];rfl
theorem zdm (l:List OpV) (k:Nat):(zgN l).take k=zgN (l.take k):=List.map_take.symm
theorem zeu (l:List OpV) (k:Nat):(zgN l).drop k=zgN (l.drop k):=List.map_drop.symm
attribute [push_cast] xK zdm zeu
end
section
open Go.RowKit
def zkt (l:List OpV):List Int:=(l.filter fun o=>Gx o.kind).map (·.slot)
end
section
open Go.RowKit
def zmb (o p:OpV):Bool:=decide (o.kind=p.kind)&&decide (o.slot=p.slot)&&decide (o.a=p.a)&&decide (o.b=p.b)&&decide (o.d=p.d)
def JZ:List OpV->List OpV->Bool
 | [],[]=>true
 | o :: r,p :: s=>zmb o p&&JZ r s
 | _,_=>false
theorem Xf:∀ l m:List OpV,JZ l m=true↔l.length=m.length/\∀ (j:Nat) (h:j<l.length) (h':j<m.length),zmb (l[j]'h) (m[j]'h')=true
 | [],[]=>by simp[JZ]
 | [],p :: s=>by simp[JZ]
 | o :: r,[]=>by simp[JZ]
 | o :: r,p :: s=>by
  have ih:=Xf r s
  simp only[JZ,Bool.and_eq_true,ih,List.length_cons]
  constructor
  ·rintro ⟨h1,h2,h3⟩
   refine ⟨by omega,fun j hj hj'=>?_⟩
   cases j with
   | zero=>exact h1
   | succ j=>exact h3 j (by omega) (by omega)
  ·rintro ⟨h1,h2⟩
   exact ⟨h2 0 (by omega) (by omega),by omega,fun j hj hj'=>h2 (j+1) (by omega) (by omega)⟩
end
section
open CA CB
open Go.RowKit
end
section
open CA CB
open Go.RowKit
end
section
open CA CB
open Go.RowKit
def j5 (f:FsV):Prop:=1<=f.maxI/\f.maxI<=1073741824/\0<=f.maxB/\f.maxB<=1073741824/\f.next<=1099511627776/\(∀ x∈f.xs,1<=x.ino/\x.ino<f.next)/\qh f.xs/\zt 1 f.xs=true/\(ze 1 f.xs).kind=2
instance (f:FsV):Decidable (j5 f):=by unfold j5;infer_instance
def Yj (f:FsV):Prop:=∀ x∈f.xs,∀ e∈x.es,zt e.ino f.xs=true
instance (f:FsV):Decidable (Yj f):=by unfold Yj;infer_instance
def kA (f:FsV):Prop:=(f.xs.length:Int)<=f.maxI/\(qr f.xs:Int)<=f.maxB
instance (f:FsV):Decidable (kA f):=by unfold kA;infer_instance
theorem qi {α:Type} {l:List α} {i:Nat} (h:i<l.length) {P:α->Prop} (h1:∀ x∈l.take i,P x) (h2:P l[i]):∀ x∈l.take (i+1),P x:=fun x hx=>by
 rw[List.take_add_one,List.getElem?_eq_getElem h]at hx
 rcases List.mem_append.1 hx with hx | hx
 ·exact h1 x hx
 ·simp at hx;subst hx;exact h2
section
variable {G:zo}
theorem M6 (f:FsV) (hl:f.xs.length<=100000):Fun Tryz.prog G 141 [.agg (fsC f)] (.sc (.bool (decide (j5 f)))) 0:=by
 have hll:(zq f.xs).length=f.xs.length:=List.length_map ..
 refine fon Tryz.func141 ?_;dsimp only[Tryz.f141]
 by_cases e0:f.maxI<1
 case pos =>
  have hn:¬j5 f:=fun h=>by have:=h.1;omega
  push_cast -dsimp [e0]
  exact dn (by push_cast -dsimp [zb,za,CLe,zd,hn])
 by_cases e1:1073741824<f.maxI
 case pos =>
  have hn:¬j5 f:=fun h=>by have:=h.2.1;omega
  push_cast -dsimp [e0,e1]
  exact dn (by push_cast -dsimp [zb,za,CLe,zd,hn])
 by_cases e2:f.maxB<0
 case pos =>
  have hn:¬j5 f:=fun h=>by have:=h.2.2.1;omega
  push_cast -dsimp [e0,e1,e2]
  exact dn (by push_cast -dsimp [zb,za,CLe,zd,hn])
 by_cases e3:1073741824<f.maxB
 case pos =>
  have hn:¬j5 f:=fun h=>by have:=h.2.2.2.1;omega
  push_cast -dsimp [e0,e1,e2,e3]
  exact dn (by push_cast -dsimp [zb,za,CLe,zd,hn])
 by_cases e4:1099511627776<f.next
 case pos =>
  have hn:¬j5 f:=fun h=>by have:=h.2.2.2.2.1;omega
  push_cast -dsimp [e0,e1,e2,e3,e4]
  exact dn (by push_cast -dsimp [zb,za,CLe,zd,hn])
 push_cast -dsimp [e0,e1,e2,e3,e4]
 refine loop (fun i:Nat=>⟨[(1,.ptr 0 0),(3,.sc (.int .i64 i))],[fsC f],0,0⟩) (fun i=>i<=f.xs.length/\∀ x∈f.xs.take i,1<=x.ino/\x.ino<f.next) (fun i=>f.xs.length-i) 0 ⟨Nat.zero_le _,fun x hx=>by simp at hx⟩ ?_ ?_
 ·exact wk
 ·rintro i ⟨h1,h2⟩
  by_cases h:i<f.xs.length
  ·have g1:=qJ f.xs i h
   by_cases c1:f.xs[i].ino<1
   ·have hn:¬j5 f:=fun h'=>by have:=h'.2.2.2.2.2.1 _ (List.getElem_mem h);omega
    push_cast -dsimp [hll,h,g1,c1]
    repeat refine an ?_
    exact dn (by push_cast -dsimp [zb,za,CLe,zd,hn])
   ·by_cases c2:f.next<=f.xs[i].ino
    ·have hn:¬j5 f:=fun h'=>by have:=h'.2.2.2.2.2.1 _ (List.getElem_mem h);omega
     push_cast -dsimp [hll,h,g1,c1,c2]
     repeat refine an ?_
     exact dn (by push_cast -dsimp [zb,za,CLe,zd,hn])
    ·push_cast -dsimp [hll,h,g1,c1,c2]
     repeat refine an ?_
     exact ⟨i+1,⟨h,qi h h2 (by omega)⟩,by omega,wk⟩
  ·rw[List.take_of_length_le (by omega)]at h2
   have hf:j5 f↔qh f.xs/\zt 1 f.xs=true/\(ze 1 f.xs).kind=2:=⟨fun h=>h.2.2.2.2.2.2,fun h=>⟨by omega,by omega,by omega,by omega,by omega,h2,h⟩⟩
   push_cast -dsimp [hll,h]
   refine cl (qN f 1 hl) ?_;push_cast -dsimp
   by_cases c1:qh f.xs
   ·cases c2:zt 1 f.xs with
    | true =>
     refine cl (VY f hl) ?_;push_cast -dsimp [decide_eq_true c1,c2]
     exact dn (by push_cast -dsimp [zb,za,CLe,zd,hf,c1,c2])
    | false =>
     have hn:¬j5 f:=fun h=>by have:=(hf.1 h).2.1;rw[c2]at this;cases this
     refine cl (VY f hl) ?_;push_cast -dsimp [decide_eq_true c1,c2]
     exact dn (by push_cast -dsimp [zb,za,CLe,zd,hn])
   ·have hn:¬j5 f:=fun h=>c1 (hf.1 h).1
    refine cl (VY f hl) ?_;push_cast -dsimp [decide_eq_false c1]
    exact dn (by push_cast -dsimp [zb,za,CLe,zd,hn])
theorem xm (f:FsV) (hf:FsS f):Fun Tryz.prog G 143 [.agg (fsC f)] (.sc (.bool (decide (Yj f)))) 0:=by
 have hll:(zq f.xs).length=f.xs.length:=List.length_map ..
 have h40:=hf.len
 refine fof (fun i=>if i=7 then jh 15 16 else []) Tryz.func143 ?_;dsimp only[Tryz.f143]
 push_cast -dsimp
 refine loop (fun i:Nat=>⟨[(1,.ptr 0 0),(3,.sc (.int .i64 i))],[fsC f],0,0⟩) (fun i=>i<=f.xs.length/\∀ x∈f.xs.take i,∀ e∈x.es,zt e.ino f.xs=true) (fun i=>f.xs.length-i) 0 ⟨Nat.zero_le _,fun x hx=>by simp at hx⟩ ?_ ?_
 ·exact wk
 ·rintro i ⟨h1,h2⟩
  by_cases h:i<f.xs.length
  ·have g1:=qJ f.xs i h
   have he:=(hf.node _ (List.getElem_mem h)).1
   have hle:(z6 f.xs[i].es).length=f.xs[i].es.length:=List.length_map ..
   push_cast -dsimp [hll,h]
   refine loop (fun k:Nat=>⟨[(1,.ptr 0 0),(3,.sc (.int .i64 i)),(4,.sc (.int .i64 k))],[fsC f],0,0⟩) (fun k=>k<=f.xs[i].es.length/\∀ e∈f.xs[i].es.take k,zt e.ino f.xs=true) (fun k=>f.xs[i].es.length-k) 0 ⟨Nat.zero_le _,fun x hx=>by simp at hx⟩ ?_ ?_
   ·exact wk
   ·rintro k ⟨h3,h4⟩
    by_cases hk:k<f.xs[i].es.length
    ·have g2:=Jd f.xs[i].es k hk
     push_cast -dsimp [g1,hle,hk,g2]
     repeat refine an ?_
     refine cl (qN f f.xs[i].es[k].ino (by omega)) ?_;push_cast -dsimp
     cases hh:zt f.xs[i].es[k].ino f.xs with
     | true =>
      push_cast -dsimp [hh]
      repeat refine an ?_
      exact ⟨k+1,⟨hk,qi hk h4 hh⟩,by omega,wk⟩
     | false =>
      have hn:¬Yj f:=fun h'=>by have:=h' _ (List.getElem_mem h) _ (List.getElem_mem hk);rw[hh]at this;cases this
      push_cast -dsimp [hh]
      exact dn (by push_cast -dsimp [zb,za,CLe,zd,hn])
    ·rw[List.take_of_length_le (by omega)]at h4
     push_cast -dsimp [g1,hle,hk]
     repeat refine an ?_
     exact ⟨i+1,⟨h,qi h h2 h4⟩,by omega,wk⟩
  ·rw[List.take_of_length_le (by omega)]at h2
   have hn:Yj f:=h2
   push_cast -dsimp [hll,h]
   exact dn (by push_cast -dsimp [zb,za,CLe,zd,hn])
theorem uK (f:FsV) (hf:FsS f) (hb:qr f.xs<=100000000):Fun Tryz.prog G 139 [.agg (fsC f),.sc (.int .i64 0),.sc (.int .i64 0)] (.sc (.bool (decide (kA f)))) 0:=by
 have hll:(zq f.xs).length=f.xs.length:=List.length_map ..
 have h40:=hf.len
 refine fon Tryz.func139 ?_;dsimp only[Tryz.f139]
 by_cases c1:f.maxI<f.xs.length
 ·have hn:¬kA f:=fun h=>by have:=h.1;omega
  push_cast -dsimp [hll,c1]
  repeat refine an ?_
  exact dn (by push_cast -dsimp [zb,za,CLe,zd,hn])
 ·have hn:kA f↔(qr f.xs:Int)<=f.maxB:=⟨fun h=>h.2,fun h=>⟨by omega,h⟩⟩
  push_cast -dsimp [hll,c1]
  repeat refine an ?_
  refine cl (zet f hf) ?_;push_cast -dsimp
  repeat refine an ?_
  exact dn (by push_cast -dsimp [zb,za,CLe,zd,hn])
end
end
section
open Go.RowKit
abbrev ZV (x:zn) (es:List z8):List (Int×Int):=es.map fun e=>(e.ino,x.ino)
def qg (xs:List zn):List (Int×Int):=xs.flatMap fun x=>ZV x x.es
def QJ (n:Int) (l:List (Int×Int)):Nat:=(l.filter fun p=>p.1==n).length
def VM (n:Int) (l:List (Int×Int)):Int:=(((l.filter fun p=>p.1==n).getLast?).map (·.2)).getD 0
theorem zmQ {n:Int} {l:List (Int×Int)} {p:Int×Int}:QJ n (l++[p])=QJ n l+if p.1=n then 1 else 0:=by
 unfold QJ
 rw[List.filter_append,List.length_append]
 by_cases h:p.1=n<;>simp[h]
theorem zi4 {n:Int} {l:List (Int×Int)} {p:Int×Int}:VM n (l++[p])=if p.1=n then p.2 else VM n l:=by
 unfold VM
 rw[List.filter_append]
 by_cases h:p.1=n<;>simp[h]
theorem zbk {xs:List zn} {i:Nat} (h:i<xs.length):qg (xs.take (i+1))=qg (xs.take i)++ZV xs[i] xs[i].es:=by
 unfold qg
 rw[List.take_add_one,List.getElem?_eq_getElem h,List.flatMap_append]
 simp
theorem zbC {x:zn} {es:List z8} {k:Nat} (h:k<es.length):ZV x (es.take (k+1))=ZV x (es.take k)++[(es[k].ino,x.ino)]:=by
 rw[List.take_add_one,List.getElem?_eq_getElem h,Option.toList_some]
 exact List.map_append
theorem zcY {xs:List zn} (hf:∀ x∈xs,x.es.length<=10000):(qg xs).length<=xs.length*10000:=by
 induction xs with
 | nil=>exact Nat.le_refl _
 | cons x r ih =>
  have h1:=hf x List.mem_cons_self
  have h2:=ih fun y hy=>hf y (List.mem_cons_of_mem _ hy)
  unfold qg at h2 ⊢
  rw[List.flatMap_cons,List.length_append,List.length_map,List.length_cons]
  omega
theorem zqf {n:Int} {l:List (Int×Int)}:QJ n l<=l.length:=List.length_filter_le _ _
def Z8 (xs:List zn) (x:zn):Prop:=x.links=QJ x.ino (qg xs)/\if x.ino=1 then QJ x.ino (qg xs)=0/\x.parent=1 else 1<=QJ x.ino (qg xs)/\(x.kind=2->QJ x.ino (qg xs)=1/\x.parent=VM x.ino (qg xs))
instance (xs:List zn) (x:zn):Decidable (Z8 xs x):=by unfold Z8;infer_instance
def Yp (f:FsV):Prop:=∀ x∈f.xs,Z8 f.xs x
instance (f:FsV):Decidable (Yp f):=by unfold Yp;infer_instance
section
variable {G:zo}
theorem zcq (f:FsV) (n:Int) (hf:FsS f):Fun Tryz.prog G 167 [.agg (fsC f),.sc (.int .i64 n)] (.tup [.sc (.int .i64 (QJ n (qg f.xs):Nat)),.sc (.int .i64 (VM n (qg f.xs)))]) 0:=by
 have hll:(zq f.xs).length=f.xs.length:=List.length_map ..
 have h40:=hf.len
 have hc0:QJ n (qg [])=0:=rfl
 have hl0:VM n (qg [])=0:=rfl
 refine fon Tryz.func167 ?_;dsimp only[Tryz.f167]
 push_cast -dsimp
 refine loop (fun i:Nat=>⟨[(1,.sc (.int .i64 n)),(2,.ptr 0 0),(6,.sc (.int .i64 (QJ n (qg (f.xs.take i)):Nat))),(7,.sc (.int .i64 (VM n (qg (f.xs.take i))))),(8,.sc (.int .i64 i))],[fsC f],0,0⟩) (fun i=>i<=f.xs.length) (fun i=>f.xs.length-i) 0 (Nat.zero_le _) ?_ ?_
 ·exact wk (by push_cast -dsimp [zb,za,CLe,zd,List.take_zero,hc0,hl0])
 ·intro i h1
  by_cases h:i<f.xs.length
  ·have g1:=qJ f.xs i h
   have hle:(z6 f.xs[i].es).length=f.xs[i].es.length:=List.length_map ..
   have hpl:(qg (f.xs.take i)).length<=i*10000:=by
    have:=zcY (xs:=f.xs.take i) fun x hx=>(hf.node x (List.mem_of_mem_take hx)).1
    rw[List.length_take]at this
    exact Nat.le_trans this (Nat.mul_le_mul_right _ (Nat.min_le_left _ _))
   have h40e:=(hf.node _ (List.getElem_mem h)).1
   push_cast -dsimp [hll,h]
   refine loop (fun k:Nat=>⟨[(1,.sc (.int .i64 n)),(2,.ptr 0 0),(6,.sc (.int .i64 (QJ n (qg (f.xs.take i)++ZV f.xs[i] (f.xs[i].es.take k)):Nat))),(7,.sc (.int .i64 (VM n (qg (f.xs.take i)++ZV f.xs[i] (f.xs[i].es.take k))))),(8,.sc (.int .i64 i)),(9,.sc (.int .i64 k))],[fsC f],0,0⟩) (fun k=>k<=f.xs[i].es.length) (fun k=>f.xs[i].es.length-k) 0 (Nat.zero_le _) ?_ ?_
   ·exact wk (by push_cast -dsimp [zb,za,CLe,zd,List.take_zero,List.append_nil])
   ·intro k hk0
    by_cases hk:k<f.xs[i].es.length
    ·have g2:=Jd f.xs[i].es k hk
     have ht:=zbC (x:=f.xs[i]) hk
     have hcl:=zqf (n:=n) (l:=qg (f.xs.take i)++ZV f.xs[i] (f.xs[i].es.take k))
     rw[List.length_append,List.length_map,List.length_take]at hcl
     have hca:=zmQ (n:=n) (l:=qg (f.xs.take i)++ZV f.xs[i] (f.xs[i].es.take k)) (p:=(f.xs[i].es[k].ino,f.xs[i].ino))
     have hla:=zi4 (n:=n) (l:=qg (f.xs.take i)++ZV f.xs[i] (f.xs[i].es.take k)) (p:=(f.xs[i].es[k].ino,f.xs[i].ino))
     rw[List.append_assoc,←ht]at hca hla
     by_cases hc:f.xs[i].es[k].ino=n
     ·rw[if_pos hc]at hca hla
      push_cast -dsimp [g1,hle,hk,g2,hc]
      repeat refine an ?_
      exact ⟨k+1,hk,by omega,wk (by push_cast -dsimp [zb,za,CLe,zd,hca,hla])⟩
     ·rw[if_neg hc]at hca hla
      push_cast -dsimp [g1,hle,hk,g2,hc]
      repeat refine an ?_
      exact ⟨k+1,hk,by omega,wk (by push_cast -dsimp [zb,za,CLe,zd,hca,hla])⟩
    ·have hkk:f.xs[i].es.take k=f.xs[i].es:=List.take_of_length_le (by omega)
     rw[hkk]
     have ht:=zbk h
     push_cast -dsimp [g1,hle,hk]
     repeat refine an ?_
     exact ⟨i+1,h,by omega,wk (by push_cast -dsimp [zb,za,CLe,zd,ht])⟩
  ·rw[List.take_of_length_le (by omega)]
   push_cast -dsimp [hll,h]
   exact dn
end
end
section
open CA CB
open Go.RowKit
section
variable {G:zo}
theorem kZ (f:FsV) (hf:FsS f):Fun Tryz.prog G 144 [.agg (fsC f)] (.sc (.bool (decide (Yp f)))) 0:=by
 have hll:(zq f.xs).length=f.xs.length:=List.length_map ..
 have h40:=hf.len
 refine fon Tryz.func144 ?_;dsimp only[Tryz.f144]
 push_cast -dsimp
 refine loop (fun i:Nat=>⟨[(1,.ptr 0 0),(3,.sc (.int .i64 i))],[fsC f],0,0⟩) (fun i=>i<=f.xs.length/\∀ x∈f.xs.take i,Z8 f.xs x) (fun i=>f.xs.length-i) 0 ⟨Nat.zero_le _,fun x hx=>by simp at hx⟩ ?_ ?_
 ·exact wk
 ·rintro i ⟨h1,h2⟩
  by_cases h:i<f.xs.length
  ·have g1:=qJ f.xs i h
   have hbad:¬Z8 f.xs f.xs[i]->¬Yp f:=fun hn h'=>hn (h' _ (List.getElem_mem h))
   have hdef:Z8 f.xs f.xs[i]↔f.xs[i].links=QJ f.xs[i].ino (qg f.xs)/\if f.xs[i].ino=1 then QJ f.xs[i].ino (qg f.xs)=0/\f.xs[i].parent=1 else 1<=QJ f.xs[i].ino (qg f.xs)/\(f.xs[i].kind=2->QJ f.xs[i].ino (qg f.xs)=1/\f.xs[i].parent=VM f.xs[i].ino (qg f.xs)):=Iff.rfl
   push_cast -dsimp [hll,h,g1]
   repeat refine an ?_
   refine cl (zcq f f.xs[i].ino hf) ?_;push_cast -dsimp
   generalize QJ f.xs[i].ino (qg f.xs)=c at hdef
   generalize VM f.xs[i].ino (qg f.xs)=d at hdef
   by_cases c1:f.xs[i].links=(c:Int)
   case neg =>
    have hn:=hbad fun h=>c1 (hdef.1 h).1
    push_cast -dsimp [c1]
    exact dn (by push_cast -dsimp [zb,za,CLe,zd,hn])
   by_cases c2:f.xs[i].ino=1
   ·rw[if_pos c2]at hdef
    by_cases c3:(c:Int)=0
    ·by_cases c4:f.xs[i].parent=1
     ·push_cast -dsimp [c1,c2,c3,c4]
      repeat refine an ?_
      exact ⟨i+1,⟨h,qi h h2 (hdef.2 ⟨c1,by omega,c4⟩)⟩,by omega,wk⟩
     ·have hn:=hbad fun h=>c4 (hdef.1 h).2.2
      push_cast -dsimp [c1,c2,c3,c4]
      exact dn (by push_cast -dsimp [zb,za,CLe,zd,hn])
    ·have hn:=hbad fun h=>by have:=(hdef.1 h).2.1;omega
     push_cast -dsimp [c1,c2,c3]
     exact dn (by push_cast -dsimp [zb,za,CLe,zd,hn])
   ·rw[if_neg c2]at hdef
    by_cases c3:(c:Int)<1
    ·have hn:=hbad fun h=>by have:=(hdef.1 h).2.1;omega
     push_cast -dsimp [c1,c2,c3]
     exact dn (by push_cast -dsimp [zb,za,CLe,zd,hn])
    by_cases c4:f.xs[i].kind=2
    ·by_cases c5:(c:Int)=1
     ·by_cases c6:f.xs[i].parent=d
      ·push_cast -dsimp [c1,c2,c3,c4,c5,c6]
       repeat refine an ?_
       exact ⟨i+1,⟨h,qi h h2 (hdef.2 ⟨c1,by omega,fun _=>⟨by omega,c6⟩⟩)⟩,by omega,wk⟩
      ·have hn:=hbad fun h=>c6 ((hdef.1 h).2.2 c4).2
       push_cast -dsimp [c1,c2,c3,c4,c5,c6]
       exact dn (by push_cast -dsimp [zb,za,CLe,zd,hn])
     ·have hn:=hbad fun h=>by have:=((hdef.1 h).2.2 c4).1;omega
      push_cast -dsimp [c1,c2,c3,c4,c5]
      exact dn (by push_cast -dsimp [zb,za,CLe,zd,hn])
    ·push_cast -dsimp [c1,c2,c3,c4]
     repeat refine an ?_
     exact ⟨i+1,⟨h,qi h h2 (hdef.2 ⟨c1,by omega,fun h=>absurd h c4⟩)⟩,by omega,wk⟩
  ·rw[List.take_of_length_le (by omega)]at h2
   have hn:Yp f:=h2
   push_cast -dsimp [hll,h]
   exact dn (by push_cast -dsimp [zb,za,CLe,zd,hn])
end
end
section
open CA CB
open Go.RowKit
abbrev zbY (S:List Int):List (List C):=S.map fun n=>[C.sc (.int .i64 n)]
def Ym (S:List Int) (n:Int):List Int:=if n∈S then S else S++[n]
def kj (S:List Int) (es:List z8):List Int:=es.foldl (fun s e=>Ym s e.ino) S
def QE (xs:List zn):Nat->Nat->List Int->List Int
 | 0,_,S=>S
 | m+1,i,S=>match S[i]? with
  | some n=>QE xs m (i+1) (kj S (ze n xs).es)
  | none=>S
def Qh (f:FsV):Prop:=(QE f.xs (f.xs.length+1) 0 [1]).length=f.xs.length
instance (f:FsV):Decidable (Qh f):=by unfold Qh;infer_instance
theorem V4:∀ {S T:List Int},S.Nodup->(∀ n∈S,n∈T)->S.length<=T.length
 | [],T,_,_=>Nat.zero_le _
 | a :: r,T,hn,hs=>by
  have ha:=hs a List.mem_cons_self
  obtain ⟨h1,h2⟩:=List.nodup_cons.1 hn
  have:=V4 (S:=r) (T:=T.erase a) h2 fun n hr=>(List.mem_erase_of_ne (fun e=>h1 (by rw[←e];exact hr))).2 (hs n (List.mem_cons_of_mem _ hr))
  rw[List.length_erase_of_mem ha]at this
  have hpos:=List.length_pos_iff.2 (List.ne_nil_of_mem ha)
  rw[List.length_cons];omega
theorem Gi {n:Int} {xs:List zn}:zt n xs=true↔n∈xs.map (·.ino):=by
 unfold zt
 rw[List.any_eq_true,List.mem_map]
 simp
theorem Zv {S:List Int} {xs:List zn} (hn:S.Nodup) (hs:∀ n∈S,zt n xs=true):S.length<=xs.length:=by
 have:=V4 (T:=xs.map (·.ino)) hn fun n h=>Gi.1 (hs n h)
 rwa [List.length_map]at this
theorem NF {S:List Int} {n:Int} (h:S.Nodup):(Ym S n).Nodup:=by
 unfold Ym
 split
 ·exact h
 ·rw[List.nodup_append]
  refine ⟨h,by simp,fun a ha b hb e=>?_⟩
  simp at hb;subst hb;subst e;contradiction
theorem Hy {S:List Int} {n m:Int}:m∈Ym S n↔m∈S∨m=n:=by
 unfold Ym
 split
 ·constructor
  ·exact .inl
  ·rintro (h | h)
   ·exact h
   ·rw[h];assumption
 ·simp
theorem qV {n:Int} {xs:List zn} (h:zt n xs=true):ze n xs∈xs/\(ze n xs).ino=n:=by
 unfold zt at h
 unfold ze QF
 cases hq:xs.find? fun x=>x.ino==n with
 | none =>
  rw[List.find?_eq_none]at hq
  obtain ⟨x,hx,he⟩:=List.any_eq_true.1 h
  exact absurd he (hq x hx)
 | some y =>
  exact ⟨List.mem_of_find?_eq_some hq,by simpa using List.find?_some hq⟩
theorem zfJ {S:List Int} {es:List z8} {k:Nat} (h:k<es.length):kj S (es.take (k+1))=Ym (kj S (es.take k)) es[k].ino:=by
 unfold kj
 rw[List.take_add_one,List.getElem?_eq_getElem h,List.foldl_append]
 rfl
theorem zhS (es:List z8):∀ (S:List Int),S <+: kj S es:=by
 induction es with
 | nil=>exact fun S=>List.prefix_refl S
 | cons e r ih =>
  intro S
  refine List.IsPrefix.trans ?_ (ih (Ym S e.ino))
  unfold Ym
  split
  ·exact List.prefix_refl S
  ·exact List.prefix_append S _
theorem ziD (S:List Int) (es:List z8):S.length<=(kj S es).length:=(zhS es S).length_le
structure J9 (xs:List zn) (S:List Int):Prop where
 nodup:S.Nodup
 has:∀ n∈S,zt n xs=true
theorem J9.len {xs:List zn} {S:List Int} (h:J9 xs S):S.length<=xs.length:=Zv h.nodup h.has
theorem J9.one {xs:List zn} {S:List Int} {n:Int} (h:J9 xs S) (hn:zt n xs=true):J9 xs (Ym S n):=⟨NF h.nodup,fun m hm=>by
 rcases Hy.1 hm with hm | rfl
 ·exact h.has m hm
 ·exact hn⟩
theorem zeS {S:List Int} {n:Int} {j:Nat} (h:j<S.length):((S.take (j+1)).any fun m=>decide (m=n))=(((S.take j).any fun m=>decide (m=n))||decide (S[j]=n)):=by
 rw[List.take_add_one,List.getElem?_eq_getElem h,List.any_append]
 simp
theorem zlH {S:List Int} {n:Int}:(S.any fun m=>decide (m=n))=decide (n∈S):=by
 rw[Bool.eq_iff_iff,List.any_eq_true,decide_eq_true_iff]
 constructor
 ·rintro ⟨m,hm,h⟩;exact (of_decide_eq_true h)▸hm
 ·exact fun h=>⟨n,h,decide_eq_true rfl⟩
theorem uR (S:List Int) (i:Nat) (h:i<S.length):(zbY S)[i]?=some [.sc (.int .i64 S[i])]:=by simp[List.getElem?_map,List.getElem?_eq_getElem h]
section
variable {G:zo}
theorem NN (f:FsV) (hf:FsS f) (h3:Yj f) (h1:zt 1 f.xs=true):Fun Tryz.prog G 145 [.agg (fsC f)] (.sc (.bool (decide (Qh f)))) 0:=by
 have hll:(zq f.xs).length=f.xs.length:=List.length_map ..
 have h40:=hf.len
 refine fof (fun i=>if i=5 then jh 9 10 else []) Tryz.func145 ?_;dsimp only[Tryz.f145]
 push_cast -dsimp
 refine loop (fun p:Nat×List Int=>⟨[(1,.ptr 0 0),(3,.own 0 3 1 (zbY p.2)),(4,.sc (.int .i64 p.1))],[fsC f],1,0⟩) (fun p=>p.1<=p.2.length/\J9 f.xs p.2/\QE f.xs (f.xs.length+1-p.1) p.1 p.2=QE f.xs (f.xs.length+1) 0 [1]) (fun p=>f.xs.length+1-p.1) (0,[1]) ⟨Nat.zero_le _,⟨by simp,fun n hn=>by simp at hn;subst hn;exact h1⟩,rfl⟩ ?_ ?_
 ·exact wks [.inl 0]
 ·rintro ⟨i,S⟩ ⟨k1,k2,k3⟩
  dsimp only at k1 k2 k3 ⊢
  have hSl:=k2.len
  have hli:(zbY S).length=S.length:=List.length_map ..
  by_cases h:i<S.length
  ·have g0:=uR S i h
   obtain ⟨hm,hino⟩:=qV (k2.has S[i] (List.getElem_mem h))
   push_cast -dsimp [hli,h,g0]
   repeat refine an ?_
   refine cl (qN f S[i] (by omega)) ?_;push_cast -dsimp
   rw[show f.xs.length+1-i=(f.xs.length+1-(i+1))+1 by omega,QE,List.getElem?_eq_getElem h]at k3
   dsimp only at k3
   generalize ze S[i] f.xs=x at hm hino k3
   have hx40:=(hf.node x hm).1
   have hle:(z6 x.es).length=x.es.length:=List.length_map ..
   refine loop (fun k:Nat=>⟨[(1,.ptr 0 0),(3,.own 0 3 1 (zbY (kj S (x.es.take k)))),(4,.sc (.int .i64 i)),(5,.ptr 1 0),(7,.sc (.int .i64 k))],[fsC f,JG x],1,0⟩) (fun k=>k<=x.es.length/\J9 f.xs (kj S (x.es.take k))) (fun k=>x.es.length-k) 0 ⟨Nat.zero_le _,k2⟩ ?_ ?_
   ·exact wks [.inl 0] (by push_cast -dsimp [zb,za,CLe,zd,List.take_zero,kj,List.foldl_nil])
   ·rintro k ⟨hk0,k4⟩
    by_cases hk:k<x.es.length
    ·have g2:=Jd x.es k hk
     have hT:=k4.len
     have ht:=zfJ (S:=S) hk
     have hhas:zt x.es[k].ino f.xs=true:=h3 x hm _ (List.getElem_mem hk)
     have k5:=k4.one hhas
     rw[←ht]at k5
     generalize hT1:kj S (x.es.take (k+1))=T1 at ht k5
     generalize kj S (x.es.take k)=T at k4 hT ht
     have hlT:(zbY T).length=T.length:=List.length_map ..
     generalize hn:x.es[k].ino=n at g2 ht
     push_cast -dsimp [hle,hk]
     refine loop (fun j:Nat=>⟨[(1,.ptr 0 0),(3,.own 0 3 1 (zbY T)),(4,.sc (.int .i64 i)),(5,.ptr 1 0),(7,.sc (.int .i64 k)),(8,.sc (.bool ((T.take j).any fun m=>decide (m=n)))),(9,.sc (.int .i64 j))],[fsC f,JG x],1,0⟩) (fun j=>j<=T.length) (fun j=>T.length-j) 0 (Nat.zero_le _) ?_ ?_
     ·exact wks [.inl 0] (by push_cast -dsimp [zb,za,CLe,zd,List.take_zero,List.any_nil])
     ·intro j hj0
      by_cases hj:j<T.length
      ·have g3:=uR T j hj
       have ha:=zeS (n:=n) hj
       by_cases hq:((T.take j).any fun m=>decide (m=n))=true
       ·rw[hq,Bool.true_or]at ha
        push_cast -dsimp [hlT,hj,hq]
        repeat refine an ?_
        exact ⟨j+1,hj,by omega,wks [.inl 0] (by push_cast -dsimp [zb,za,CLe,zd,ha])⟩
       ·have hq:=Bool.eq_false_iff.2 hq
        rw[hq,Bool.false_or]at ha
        push_cast -dsimp [hlT,hj,hq,g3,g2,hn]
        repeat refine an ?_
        exact ⟨j+1,hj,by omega,wks [.inl 0] (by push_cast -dsimp [zb,za,CLe,zd,ha])⟩
      ·have hTj:(T.take j)=T:=List.take_of_length_le (by omega)
       have hany:=zlH (S:=T) (n:=n)
       unfold Ym at ht
       by_cases hin:n∈T
       ·rw[if_pos hin]at ht
        rw[decide_eq_true hin]at hany
        push_cast -dsimp [hlT,hj,hTj,hany]
        repeat refine an ?_
        exact ⟨k+1,⟨hk,by rw[hT1];exact k5⟩,by omega,wks [.inl 0] (by push_cast -dsimp [zb,za,CLe,zd,hT1,ht])⟩
       ·rw[if_neg hin]at ht
        rw[decide_eq_false hin]at hany
        push_cast -dsimp [hlT,hj,hTj,hany,g2,hn]
        repeat refine an ?_
        exact ⟨k+1,⟨hk,by rw[hT1];exact k5⟩,by omega,wks [.inl 0] (by push_cast -dsimp [zb,za,CLe,zd,hT1,ht,List.map_append])⟩
    ·have hkk:x.es.take k=x.es:=List.take_of_length_le (by omega)
     rw[hkk]at k4
     have hge:i+1<=(kj S x.es).length:=Nat.le_trans h (ziD S x.es)
     push_cast -dsimp [hle,hk,hkk]
     repeat refine an ?_
     exact ⟨(i+1,kj S x.es),⟨hge,k4,k3⟩,by dsimp only;omega,wks [.inl 0]⟩
  ·push_cast -dsimp [hli,h]
   have hfin:QE f.xs (f.xs.length+1-i) i S=S:=by
    rw[show f.xs.length+1-i=(f.xs.length-i)+1 by omega,QE,List.getElem?_eq_none (by omega)]
   rw[hfin]at k3
   have hn:Qh f↔S.length=f.xs.length:=by unfold Qh;rw[←k3]
   exact dn (by push_cast -dsimp [zb,za,CLe,zd,hn,hll])
end
end
section
open CA CB
open Go.RowKit
def YJ (es:List z8):Prop:=∀ i (h:i<es.length),may es[i].name=true/\1<=es[i].ino/\(0<i->Op.bytesLess es[i-1].name es[i].name=true)
instance (es:List z8):Decidable (YJ es):=by unfold YJ;infer_instance
def Yw (x:zn):Prop:=(x.kind=1∨x.kind=2∨x.kind=3)/\(x.kind≠2->x.es = []/\x.parent=0)/\(x.kind=2->x.data = []/\YJ x.es)/\(x.kind=3->1<=x.data.length/\x.data.length<=4095/\∀ b∈x.data,b≠0)
instance (x:zn):Decidable (Yw x):=by unfold Yw;infer_instance
def Yu (f:FsV):Prop:=∀ x∈f.xs,Yw x
instance (f:FsV):Decidable (Yu f):=by unfold Yu;infer_instance
def Ji (f:FsV):Int:=if j5 f then if Yu f then if Yj f then if Yp f then if Qh f then if kA f then 0 else 6 else 5 else 4 else 3 else 2 else 1
def okV (f:FsV):Prop:=Vz f.xs/\Ji f=0
instance (f:FsV):Decidable (okV f):=by unfold okV;infer_instance
theorem zfa (es:List z8) (hl:es.length<=100000) (hn:∀ e∈es,e.name.length<=1000000):Fun Tryz.prog G0 166 [.sl 2 (z6 es)] (qu (decide (YJ es))) 0:=by
 have hle:(z6 es).length=es.length:=List.length_map ..
 refine fon Tryz.func166 ?_;dsimp only[Tryz.f166]
 push_cast -dsimp
 refine loop (fun i:Nat=>⟨[(0,.sl 2 (z6 es)),(3,.sc (.int .i64 i))],[],0,0⟩) (fun i=>i<=es.length/\∀ j (h:j<es.length),j<i->may es[j].name=true/\1<=es[j].ino/\(0<j->Op.bytesLess es[j-1].name es[j].name=true)) (fun i=>es.length-i) 0 ⟨Nat.zero_le _,fun j h h'=>absurd h' (Nat.not_lt_zero _)⟩ ?_ ?_
 ·exact wk
 ·rintro i ⟨h1,h2⟩
  by_cases h:i<es.length
  ·have g1:=Jd es i h
   have hm:=Hq es[i].name (by have:=hn _ (List.getElem_mem h);omega)
   push_cast -dsimp [hle,h,g1]
   repeat refine an ?_
   cases c1:may es[i].name with
   | false =>
    have hno:¬YJ es:=fun hr=>by have:=(hr i h).1;rw[c1]at this;cases this
    refine cl (hm) ?_;push_cast -dsimp [c1]
    exact dn (by push_cast -dsimp [zb,za,CLe,zd,hno])
   | true =>
    by_cases c2:es[i].ino<1
    ·have hno:¬YJ es:=fun hr=>by have:=(hr i h).2.1;omega
     refine cl (hm) ?_;push_cast -dsimp [c1,g1,c2]
     repeat refine an ?_
     exact dn (by push_cast -dsimp [zb,za,CLe,zd,hno])
    ·have step:(0<i->Op.bytesLess es[i-1].name es[i].name=true)->∀ j (h:j<es.length),j<i+1->may es[j].name=true/\1<=es[j].ino/\(0<j->Op.bytesLess es[j-1].name es[j].name=true):=fun hb j hj hlt=>by
      rcases Nat.lt_or_ge j i with q | q
      ·exact h2 j hj q
      ·have:j=i:=by omega
       subst this
       exact ⟨c1,by omega,hb⟩
     by_cases c3:0<i
     ·have g2:=Jd es (i-1) (by omega)
      have e1:(i:Int)-1=((i-1:Nat):Int):=by omega
      cases c4:Op.bytesLess es[i-1].name es[i].name with
      | true =>
       refine cl (hm) ?_;push_cast -dsimp [c1,g1,c2]
       repeat refine an ?_
       push_cast -dsimp [c3,e1,g2,g1,c4]
       repeat refine an ?_
       exact ⟨i+1,⟨h,step fun _=>c4⟩,by omega,wk⟩
      | false =>
       have hno:¬YJ es:=fun hr=>by have:=(hr i h).2.2 c3;rw[c4]at this;cases this
       refine cl (hm) ?_;push_cast -dsimp [c1,g1,c2]
       repeat refine an ?_
       push_cast -dsimp [c3,e1,g2,g1,c4]
       repeat refine an ?_
       exact dn (by push_cast -dsimp [zb,za,CLe,zd,hno])
     ·refine cl (hm) ?_;push_cast -dsimp [c1,g1,c2]
      repeat refine an ?_
      push_cast -dsimp [c3]
      repeat refine an ?_
      exact ⟨i+1,⟨h,step fun h=>absurd h c3⟩,by omega,wk⟩
  ·have hr:YJ es:=fun j hj=>h2 j hj (by omega)
   push_cast -dsimp [hle,h]
   exact dn (by push_cast -dsimp [zb,za,CLe,zd,hr])
end
section
open CA CB
open Go.RowKit
theorem Hi (f:FsV) (hf:FsS f):Fun Tryz.prog G0 142 [.agg (fsC f)] (qu (decide (Yu f))) 0:=by
 have hll:(zq f.xs).length=f.xs.length:=List.length_map ..
 have h40:=hf.len
 refine fon Tryz.func142 ?_;dsimp only[Tryz.f142]
 push_cast -dsimp
 refine loop (fun i:Nat=>⟨[(1,.ptr 0 0),(3,.sc (.int .i64 i))],[fsC f],0,0⟩) (fun i=>i<=f.xs.length/\∀ x∈f.xs.take i,Yw x) (fun i=>f.xs.length-i) 0 ⟨Nat.zero_le _,fun x hx=>by simp at hx⟩ ?_ ?_
 ·exact wk
 ·rintro i ⟨h1,h2⟩
  by_cases h:i<f.xs.length
  case neg =>
   rw[List.take_of_length_le (by omega)]at h2
   have hn:Yu f:=h2
   push_cast -dsimp [hll,h]
   exact dn (by push_cast -dsimp [zb,za,CLe,zd,hn])
  have g1:=qJ f.xs i h
  have hbad:¬Yw f.xs[i]->¬Yu f:=fun hn h'=>hn (h' _ (List.getElem_mem h))
  have hs:=hf.node _ (List.getElem_mem h)
  have step:Yw f.xs[i]->∀ x∈f.xs.take (i+1),Yw x:=fun hq=>qi h h2 hq
  push_cast -dsimp [hll,h,g1]
  repeat refine an ?_
  generalize f.xs[i]=x at g1 hbad hs step
  have hle:(z6 x.es).length=x.es.length:=List.length_map ..
  have hent:x.es.length<=10000:=hs.1
  by_cases k2:x.kind=2
  ·by_cases d0:x.data = []
   ·have hr:=zfa x.es (by omega) fun e he=>by have:=hs.2.2 e he;omega
    cases c1:decide (YJ x.es) with
    | false =>
     have hn:=hbad fun hq=>of_decide_eq_false c1 (hq.2.2.1 k2).2
     push_cast -dsimp [k2,d0]
     refine cl (hr) ?_;push_cast -dsimp [c1]
     exact dn (by push_cast -dsimp [zb,za,CLe,zd,hn])
    | true =>
     have hq:Yw x:=⟨.inr (.inl k2),fun h=>absurd k2 h,fun _=>⟨d0,of_decide_eq_true c1⟩,fun h=>by omega⟩
     push_cast -dsimp [k2,d0]
     refine cl (hr) ?_;push_cast -dsimp [c1,k2]
     refine loop (fun j:Nat=>⟨[(1,.ptr 0 0),(3,.sc (.int .i64 i)),(4,.ptr 1 0),(5,.sc (.int .i64 j))],[fsC f,JG x],0,0⟩) (fun j=>j=0) (fun j=>0) 0 rfl ?_ ?_
     ·exact wk (by push_cast -dsimp [zb,za,CLe,zd,k2,d0]) (by push_cast -dsimp [zb,za,CLe,zd,k2,d0])
     ·rintro j rfl
      push_cast -dsimp [d0]
      repeat refine an ?_
      exact ⟨i+1,⟨h,step hq⟩,by omega,wk⟩
   ·have hn:=hbad fun hq=>d0 (hq.2.2.1 k2).1
    push_cast -dsimp [k2,d0]
    exact dn (by push_cast -dsimp [zb,za,CLe,zd,hn])
  by_cases e0:x.es = []
  case neg =>
   have hn:=hbad fun hq=>e0 (hq.2.1 k2).1
   have hpos:0<(x.es.length:Int):=by have:=List.length_pos_iff.2 e0;omega
   by_cases k1:x.kind=1
   ·push_cast -dsimp [k1,hle,hpos]
    exact dn (by push_cast -dsimp [zb,za,CLe,zd,hn])
   ·by_cases k3:x.kind=3
    ·push_cast -dsimp [k1,k2,k3,hle,hpos]
     exact dn (by push_cast -dsimp [zb,za,CLe,zd,hn])
    ·have hn:=hbad fun hq=>by rcases hq.1 with q | q | q<;>contradiction
     push_cast -dsimp [k1,k2,k3]
     exact dn (by push_cast -dsimp [zb,za,CLe,zd,hn])
  have hl0:x.es.length=0:=by rw[e0];rfl
  by_cases p0:x.parent=0
  case neg =>
   have hn:=hbad fun hq=>p0 (hq.2.1 k2).2
   by_cases k1:x.kind=1
   ·push_cast -dsimp [k1,hle,hl0,p0]
    exact dn (by push_cast -dsimp [zb,za,CLe,zd,hn])
   ·by_cases k3:x.kind=3
    ·push_cast -dsimp [k1,k2,k3,hle,hl0,p0]
     exact dn (by push_cast -dsimp [zb,za,CLe,zd,hn])
    ·have hn:=hbad fun hq=>by rcases hq.1 with q | q | q<;>contradiction
     push_cast -dsimp [k1,k2,k3]
     exact dn (by push_cast -dsimp [zb,za,CLe,zd,hn])
  by_cases k1:x.kind=1
  ·have hq:Yw x:=⟨.inl k1,fun _=>⟨e0,p0⟩,fun h=>absurd h k2,fun h=>by omega⟩
   push_cast -dsimp [k1,hle,hl0,p0]
   refine loop (fun j:Nat=>⟨[(1,.ptr 0 0),(3,.sc (.int .i64 i)),(4,.ptr 1 0),(5,.sc (.int .i64 j))],[fsC f,JG x],0,0⟩) (fun j=>j=0) (fun j=>0) 0 rfl ?_ ?_
   ·exact wk (by push_cast -dsimp [zb,za,CLe,zd,k1,p0]) (by push_cast -dsimp [zb,za,CLe,zd,k1,p0])
   ·rintro j rfl
    by_cases hd:(0:Int)<x.data.length
    ·push_cast -dsimp [hd,k1]
     repeat refine an ?_
     exact ⟨i+1,⟨h,step hq⟩,by omega,wk⟩
    ·push_cast -dsimp [hd,k1]
     repeat refine an ?_
     exact ⟨i+1,⟨h,step hq⟩,by omega,wk⟩
  by_cases k3:x.kind=3
  case neg =>
   have hn:=hbad fun hq=>by rcases hq.1 with q | q | q<;>contradiction
   push_cast -dsimp [k1,k2,k3]
   exact dn (by push_cast -dsimp [zb,za,CLe,zd,hn])
  by_cases l1:(x.data.length:Int)<1
  ·have hn:=hbad fun hq=>by have:=(hq.2.2.2 k3).1;omega
   push_cast -dsimp [k1,k2,k3,hle,hl0,p0,l1]
   exact dn (by push_cast -dsimp [zb,za,CLe,zd,hn])
  by_cases l2:4095<(x.data.length:Int)
  ·have hn:=hbad fun hq=>by have:=(hq.2.2.2 k3).2.1;omega
   push_cast -dsimp [k1,k2,k3,hle,hl0,p0,l1,l2]
   exact dn (by push_cast -dsimp [zb,za,CLe,zd,hn])
  push_cast -dsimp [k1,k2,k3,hle,hl0,p0,l1,l2]
  refine loop (fun j:Nat=>⟨[(1,.ptr 0 0),(3,.sc (.int .i64 i)),(4,.ptr 1 0),(5,.sc (.int .i64 j))],[fsC f,JG x],0,0⟩) (fun j=>j<=x.data.length/\∀ b∈x.data.take j,b≠0) (fun j=>x.data.length-j) 0 ⟨Nat.zero_le _,fun b hb=>by simp at hb⟩ ?_ ?_
  ·exact wk (by push_cast -dsimp [zb,za,CLe,zd,k3,p0]) (by push_cast -dsimp [zb,za,CLe,zd,k3,p0])
  ·rintro j ⟨j1,j2⟩
   by_cases hj:j<x.data.length
   ·have hb:x.data[j]?=some x.data[j]:=List.getElem?_eq_getElem hj
    by_cases z:(x.data[j].toNat:Int)=0
    ·have hn:=hbad fun hq=>(hq.2.2.2 k3).2.2 _ (List.getElem_mem hj) (UInt8.toNat_inj.1 (by simpa using z))
     push_cast -dsimp [hj,k3,hb,z]
     repeat refine an ?_
     exact dn (by push_cast -dsimp [zb,za,CLe,zd,hn])
    ·push_cast -dsimp [hj,k3,hb,z]
     repeat refine an ?_
     exact ⟨j+1,⟨hj,qi hj j2 fun hz=>z (by rw[hz];rfl)⟩,by omega,wk⟩
   ·rw[List.take_of_length_le (by omega)]at j2
    have hq:Yw x:=⟨.inr (.inr k3),fun _=>⟨e0,p0⟩,fun h=>absurd h k2,fun _=>⟨by omega,by omega,j2⟩⟩
    push_cast -dsimp [hj,k3]
    repeat refine an ?_
    exact ⟨i+1,⟨h,step hq⟩,by omega,wk⟩
theorem zdK (f:FsV) (hf:FsS f):Fun Tryz.prog G0 95 [.agg (fsC f)] (.sc (.int .i64 (Ji f))) 0:=by
 have h40:=hf.len
 have hb:qr f.xs<=100000000:=by have:=hf.bytes;omega
 refine fon Tryz.func95 ?_;dsimp only[Tryz.f95]
 push_cast -dsimp
 by_cases c1:j5 f
 case neg =>
  refine cl (M6 f (by omega)) ?_;push_cast -dsimp [decide_eq_false c1]
  exact dn (by push_cast -dsimp [zb,za,CLe,zd,Ji,c1])
 refine cl (M6 f (by omega)) ?_;push_cast -dsimp [decide_eq_true c1]
 by_cases c2:Yu f
 case neg =>
  refine cl (Hi f hf) ?_;push_cast -dsimp [decide_eq_false c2]
  exact dn (by push_cast -dsimp [zb,za,CLe,zd,Ji,c1,c2])
 refine cl (Hi f hf) ?_;push_cast -dsimp [decide_eq_true c2]
 by_cases c3:Yj f
 case neg =>
  refine cl (xm f hf) ?_;push_cast -dsimp [decide_eq_false c3]
  exact dn (by push_cast -dsimp [zb,za,CLe,zd,Ji,c1,c2,c3])
 refine cl (xm f hf) ?_;push_cast -dsimp [decide_eq_true c3]
 by_cases c4:Yp f
 case neg =>
  refine cl (kZ f hf) ?_;push_cast -dsimp [decide_eq_false c4]
  exact dn (by push_cast -dsimp [zb,za,CLe,zd,Ji,c1,c2,c3,c4])
 refine cl (kZ f hf) ?_;push_cast -dsimp [decide_eq_true c4]
 by_cases c5:Qh f
 case neg =>
  refine cl (NN f hf c3 c1.2.2.2.2.2.2.2.1) ?_;push_cast -dsimp [decide_eq_false c5]
  exact dn (by push_cast -dsimp [zb,za,CLe,zd,Ji,c1,c2,c3,c4,c5])
 refine cl (NN f hf c3 c1.2.2.2.2.2.2.2.1) ?_;push_cast -dsimp [decide_eq_true c5]
 by_cases c6:kA f
 case neg =>
  refine cl (uK f hf hb) ?_;push_cast -dsimp [decide_eq_false c6]
  exact dn (by push_cast -dsimp [zb,za,CLe,zd,Ji,c1,c2,c3,c4,c5,c6])
 refine cl (uK f hf hb) ?_;push_cast -dsimp [decide_eq_true c6]
 exact dn (by push_cast -dsimp [zb,za,CLe,zd,Ji,c1,c2,c3,c4,c5,c6])
end
section
open CA CB
open Go.RowKit
def jt (x:zn) (k:zP):Bool:=decide (k.ino=x.ino)&&!k.content
def qp (w:qR) (x:zn):Prop:=zt x.ino w.fs.xs=false/\1<=x.ino/\x.ino<w.fs.next/\x.links=0/\x.parent=0/\x.es = []/\(x.kind=1∨x.kind=2∨x.kind=3)/\(x.kind=2->x.data = [])/\(x.kind=3->1<=x.data.length/\x.data.length<=4095/\∀ b∈x.data,b≠0)/\w.kept.any (jt x)=true
instance (w:qR) (x:zn):Decidable (qp w x):=by unfold qp;infer_instance
theorem zqt {α:Type} {P:α->Bool} {l:List α} {k:Nat} (h:k<l.length):(l.take (k+1)).any P=((l.take k).any P||P l[k]):=by
 rw[List.take_add_one,List.getElem?_eq_getElem h,List.any_append];simp
theorem za5 (w:qR) (x:zn) (hl:w.fs.xs.length<=100000) (hk:w.kept.length<=100000) (he:x.es.length<=100000) (hd:x.data.length<=100000):Fun Tryz.prog G0 97 [Vu w,.agg (JG x)] (qu (decide (qp w x))) 0:=by
 have hg:=qN (G:=G0) w.fs x.ino hl
 have hkl:(zF w.kept).length=w.kept.length:=List.length_map ..
 have hle:(z6 x.es).length=x.es.length:=List.length_map ..
 by_cases c1:zt x.ino w.fs.xs=true
 ·have hn:¬qp w x:=fun h=>by have:=h.1;rw[c1]at this;cases this
  rw[c1]at hg
  refine fon Tryz.func97 ?_;dsimp only[Tryz.f97]
  push_cast -dsimp
  refine cl (hg) ?_;push_cast -dsimp
  exact dn (by push_cast -dsimp [zb,za,CLe,zd,hn])
 have c1:=Bool.eq_false_iff.2 c1
 rw[c1]at hg
 by_cases c2:x.ino<1
 case pos =>
  have hn:¬qp w x:=fun h=>by have:=h.2.1;omega
  refine fon Tryz.func97 ?_;dsimp only[Tryz.f97]
  push_cast -dsimp
  refine cl (hg) ?_;push_cast -dsimp [hle,c2]
  exact dn (by push_cast -dsimp [zb,za,CLe,zd,hn])
 by_cases c3:w.fs.next<=x.ino
 case pos =>
  have hn:¬qp w x:=fun h=>by have:=h.2.2.1;omega
  refine fon Tryz.func97 ?_;dsimp only[Tryz.f97]
  push_cast -dsimp
  refine cl (hg) ?_;push_cast -dsimp [hle,c2,c3]
  exact dn (by push_cast -dsimp [zb,za,CLe,zd,hn])
 by_cases c4:x.links=0
 case neg =>
  have hn:¬qp w x:=fun h=>c4 h.2.2.2.1
  refine fon Tryz.func97 ?_;dsimp only[Tryz.f97]
  push_cast -dsimp
  refine cl (hg) ?_;push_cast -dsimp [hle,c2,c3,c4]
  exact dn (by push_cast -dsimp [zb,za,CLe,zd,hn])
 by_cases c5:x.parent=0
 case neg =>
  have hn:¬qp w x:=fun h=>c5 h.2.2.2.2.1
  refine fon Tryz.func97 ?_;dsimp only[Tryz.f97]
  push_cast -dsimp
  refine cl (hg) ?_;push_cast -dsimp [hle,c2,c3,c4,c5]
  exact dn (by push_cast -dsimp [zb,za,CLe,zd,hn])
 by_cases c6:(x.es.length:Int)=0
 case neg =>
  have hn:¬qp w x:=fun h=>c6 (by rw[h.2.2.2.2.2.1];rfl)
  refine fon Tryz.func97 ?_;dsimp only[Tryz.f97]
  push_cast -dsimp
  refine cl (hg) ?_;push_cast -dsimp [hle,c2,c3,c4,c5,c6]
  exact dn (by push_cast -dsimp [zb,za,CLe,zd,hn])
 by_cases c7:x.kind<1
 case pos =>
  have hn:¬qp w x:=fun h=>by have:=h.2.2.2.2.2.2.1;omega
  refine fon Tryz.func97 ?_;dsimp only[Tryz.f97]
  push_cast -dsimp
  refine cl (hg) ?_;push_cast -dsimp [hle,c2,c3,c4,c5,c6,c7]
  exact dn (by push_cast -dsimp [zb,za,CLe,zd,hn])
 by_cases c8:3<x.kind
 case pos =>
  have hn:¬qp w x:=fun h=>by have:=h.2.2.2.2.2.2.1;omega
  refine fon Tryz.func97 ?_;dsimp only[Tryz.f97]
  push_cast -dsimp
  refine cl (hg) ?_;push_cast -dsimp [hle,c2,c3,c4,c5,c6,c7,c8]
  exact dn (by push_cast -dsimp [zb,za,CLe,zd,hn])
 have hes:x.es = []:=List.eq_nil_of_length_eq_zero (by omega)
 have hkd:x.kind=1∨x.kind=2∨x.kind=3:=by omega
 have key:(x.kind=2->x.data = [])->(x.kind=3->1<=x.data.length/\x.data.length<=4095/\∀ b∈x.data,b≠0)->decide (qp w x)=w.kept.any (jt x):=fun q1 q2=>by
  cases hn:w.kept.any (jt x) with
  | true=>exact decide_eq_true ⟨c1,by omega,by omega,c4,c5,hes,hkd,q1,q2,hn⟩
  | false=>exact decide_eq_false fun h=>by have:=h.2.2.2.2.2.2.2.2.2;rw[hn]at this;cases this
 by_cases k2:x.kind=2
 ·by_cases d0:x.data = []
  ·have hdl:((0:Int)<x.data.length)=False:=eq_false (by rw[d0];simp)
   refine fon Tryz.func97 ?_;dsimp only[Tryz.f97]
   push_cast -dsimp
   refine cl (hg) ?_;push_cast -dsimp [hle,c2,c3,c4,c5,c6,c7,c8,k2,d0,hdl]
   refine loop (fun j:Nat=>⟨[(2,.ptr 0 0),(3,.ptr 1 0),(7,.sc (.int .i64 j))],[Nb w,JG x],0,0⟩) (fun j=>j=0) (fun j=>0) 0 rfl ?_ ?_
   ·exact wk (h5:=by push_cast -dsimp [zb,za,CLe,zd,k2,d0,c4,c5])
   ·rintro j rfl
    push_cast -dsimp [hdl,d0]
    refine loop (fun i:Nat=>⟨[(2,.ptr 0 0),(3,.ptr 1 0),(8,.sc (.bool ((w.kept.take i).any (jt x)))),(9,.sc (.int .i64 i))],[Nb w,JG x],0,0⟩) (fun i=>i<=w.kept.length) (fun i=>w.kept.length-i) 0 (Nat.zero_le _) ?_ ?_
    ·exact wk (by push_cast -dsimp [zb,za,CLe,zd,List.take_zero,List.any_nil])
    ·intro i hi
     by_cases h:i<w.kept.length
     ·have g:=Jg w.kept i h
      have ha:=zqt (P:=jt x) h
      have hp:jt x w.kept[i]=(decide (w.kept[i].ino=x.ino)&&!w.kept[i].content):=rfl
      by_cases hn:((w.kept.take i).any (jt x))=true
      ·rw[hn,Bool.true_or]at ha
       push_cast -dsimp [hkl,h,hn]
       repeat refine an ?_
       exact ⟨i+1,h,by omega,wk (by push_cast -dsimp [zb,za,CLe,zd,ha])⟩
      ·have hn:=Bool.eq_false_iff.2 hn
       rw[hn,Bool.false_or,hp]at ha
       by_cases he:w.kept[i].ino=x.ino
       ·rw[decide_eq_true he,Bool.true_and]at ha
        push_cast -dsimp [hkl,h,hn,g,he]
        repeat refine an ?_
        exact ⟨i+1,h,by omega,wk (by push_cast -dsimp [zb,za,CLe,zd,ha])⟩
       ·rw[decide_eq_false he,Bool.false_and]at ha
        push_cast -dsimp [hkl,h,hn,g,he]
        repeat refine an ?_
        exact ⟨i+1,h,by omega,wk (by push_cast -dsimp [zb,za,CLe,zd,ha])⟩
     ·rw[List.take_of_length_le (by omega)]
      have hd:decide (qp w x)=w.kept.any (jt x):=key (fun _=>d0) (fun h=>by omega)
      push_cast -dsimp [hkl,h]
      exact dn (by push_cast -dsimp [zb,za,CLe,zd,hd])
  ·have hn:¬qp w x:=fun h=>d0 (h.2.2.2.2.2.2.2.1 k2)
   refine fon Tryz.func97 ?_;dsimp only[Tryz.f97]
   push_cast -dsimp
   refine cl (hg) ?_;push_cast -dsimp [hle,c2,c3,c4,c5,c6,c7,c8,k2,d0]
   exact dn (by push_cast -dsimp [zb,za,CLe,zd,hn])
 by_cases k3:x.kind=3
 ·by_cases l1:(x.data.length:Int)<1
  ·have hn:¬qp w x:=fun h=>by have:=(h.2.2.2.2.2.2.2.2.1 k3).1;omega
   refine fon Tryz.func97 ?_;dsimp only[Tryz.f97]
   push_cast -dsimp
   refine cl (hg) ?_;push_cast -dsimp [hle,c2,c3,c4,c5,c6,c7,c8,k2,k3,l1]
   exact dn (by push_cast -dsimp [zb,za,CLe,zd,hn])
  by_cases l2:4095<(x.data.length:Int)
  ·have hn:¬qp w x:=fun h=>by have:=(h.2.2.2.2.2.2.2.2.1 k3).2.1;omega
   refine fon Tryz.func97 ?_;dsimp only[Tryz.f97]
   push_cast -dsimp
   refine cl (hg) ?_;push_cast -dsimp [hle,c2,c3,c4,c5,c6,c7,c8,k2,k3,l1,l2]
   exact dn (by push_cast -dsimp [zb,za,CLe,zd,hn])
  refine fon Tryz.func97 ?_;dsimp only[Tryz.f97]
  push_cast -dsimp
  refine cl (hg) ?_;push_cast -dsimp [hle,c2,c3,c4,c5,c6,c7,c8,k2,k3,l1,l2]
  refine loop (fun j:Nat=>⟨[(2,.ptr 0 0),(3,.ptr 1 0),(7,.sc (.int .i64 j))],[Nb w,JG x],0,0⟩) (fun j=>j<=x.data.length/\∀ b∈x.data.take j,b≠0) (fun j=>x.data.length-j) 0 ⟨Nat.zero_le _,fun b hb=>by simp at hb⟩ ?_ ?_
  ·exact wk (h5:=by push_cast -dsimp [zb,za,CLe,zd,k3,c4,c5])
  ·rintro j ⟨j1,j2⟩
   by_cases hj:j<x.data.length
   ·have hb:x.data[j]?=some x.data[j]:=List.getElem?_eq_getElem hj
    by_cases z:(x.data[j].toNat:Int)=0
    ·have hn:¬qp w x:=fun h=>(h.2.2.2.2.2.2.2.2.1 k3).2.2 _ (List.getElem_mem hj) (UInt8.toNat_inj.1 (by simpa using z))
     push_cast -dsimp [hj,k3,hb,z]
     repeat refine an ?_
     exact dn (by push_cast -dsimp [zb,za,CLe,zd,hn])
    ·push_cast -dsimp [hj,k3,hb,z]
     repeat refine an ?_
     exact ⟨j+1,⟨hj,qi hj j2 fun hz=>z (by rw[hz];rfl)⟩,by omega,wk⟩
   ·rw[List.take_of_length_le (by omega)]at j2
    push_cast -dsimp [hj,k3]
    refine loop (fun i:Nat=>⟨[(2,.ptr 0 0),(3,.ptr 1 0),(8,.sc (.bool ((w.kept.take i).any (jt x)))),(9,.sc (.int .i64 i))],[Nb w,JG x],0,0⟩) (fun i=>i<=w.kept.length) (fun i=>w.kept.length-i) 0 (Nat.zero_le _) ?_ ?_
    ·exact wk (by push_cast -dsimp [zb,za,CLe,zd,List.take_zero,List.any_nil])
    ·intro i hi
     by_cases h:i<w.kept.length
     ·have g:=Jg w.kept i h
      have ha:=zqt (P:=jt x) h
      have hp:jt x w.kept[i]=(decide (w.kept[i].ino=x.ino)&&!w.kept[i].content):=rfl
      by_cases hn:((w.kept.take i).any (jt x))=true
      ·rw[hn,Bool.true_or]at ha
       push_cast -dsimp [hkl,h,hn]
       repeat refine an ?_
       exact ⟨i+1,h,by omega,wk (by push_cast -dsimp [zb,za,CLe,zd,ha])⟩
      ·have hn:=Bool.eq_false_iff.2 hn
       rw[hn,Bool.false_or,hp]at ha
       by_cases he:w.kept[i].ino=x.ino
       ·rw[decide_eq_true he,Bool.true_and]at ha
        push_cast -dsimp [hkl,h,hn,g,he]
        repeat refine an ?_
        exact ⟨i+1,h,by omega,wk (by push_cast -dsimp [zb,za,CLe,zd,ha])⟩
       ·rw[decide_eq_false he,Bool.false_and]at ha
        push_cast -dsimp [hkl,h,hn,g,he]
        repeat refine an ?_
        exact ⟨i+1,h,by omega,wk (by push_cast -dsimp [zb,za,CLe,zd,ha])⟩
     ·rw[List.take_of_length_le (by omega)]
      have hd:decide (qp w x)=w.kept.any (jt x):=key (fun h=>absurd h k2) (fun _=>⟨by omega,by omega,j2⟩)
      push_cast -dsimp [hkl,h]
      exact dn (by push_cast -dsimp [zb,za,CLe,zd,hd])
 ·have k1:x.kind=1:=by omega
  refine fon Tryz.func97 ?_;dsimp only[Tryz.f97]
  push_cast -dsimp
  refine cl (hg) ?_;push_cast -dsimp [hle,c2,c3,c4,c5,c6,c7,c8,k2,k3]
  refine loop (fun j:Nat=>⟨[(2,.ptr 0 0),(3,.ptr 1 0),(7,.sc (.int .i64 j))],[Nb w,JG x],0,0⟩) (fun j=>j=0) (fun j=>0) 0 rfl ?_ ?_
  ·exact wk (h5:=by push_cast -dsimp [zb,za,CLe,zd,c4,c5])
  ·rintro j rfl
   by_cases hd0:(0:Int)<x.data.length
   ·push_cast -dsimp [hd0,k3]
    refine loop (fun i:Nat=>⟨[(2,.ptr 0 0),(3,.ptr 1 0),(8,.sc (.bool ((w.kept.take i).any (jt x)))),(9,.sc (.int .i64 i))],[Nb w,JG x],0,0⟩) (fun i=>i<=w.kept.length) (fun i=>w.kept.length-i) 0 (Nat.zero_le _) ?_ ?_
    ·exact wk (by push_cast -dsimp [zb,za,CLe,zd,List.take_zero,List.any_nil])
    ·intro i hi
     by_cases h:i<w.kept.length
     ·have g:=Jg w.kept i h
      have ha:=zqt (P:=jt x) h
      have hp:jt x w.kept[i]=(decide (w.kept[i].ino=x.ino)&&!w.kept[i].content):=rfl
      by_cases hn:((w.kept.take i).any (jt x))=true
      ·rw[hn,Bool.true_or]at ha
       push_cast -dsimp [hkl,h,hn]
       repeat refine an ?_
       exact ⟨i+1,h,by omega,wk (by push_cast -dsimp [zb,za,CLe,zd,ha])⟩
      ·have hn:=Bool.eq_false_iff.2 hn
       rw[hn,Bool.false_or,hp]at ha
       by_cases he:w.kept[i].ino=x.ino
       ·rw[decide_eq_true he,Bool.true_and]at ha
        push_cast -dsimp [hkl,h,hn,g,he]
        repeat refine an ?_
        exact ⟨i+1,h,by omega,wk (by push_cast -dsimp [zb,za,CLe,zd,ha])⟩
       ·rw[decide_eq_false he,Bool.false_and]at ha
        push_cast -dsimp [hkl,h,hn,g,he]
        repeat refine an ?_
        exact ⟨i+1,h,by omega,wk (by push_cast -dsimp [zb,za,CLe,zd,ha])⟩
     ·rw[List.take_of_length_le (by omega)]
      have hd:decide (qp w x)=w.kept.any (jt x):=key (fun h=>absurd h k2) (fun h=>absurd h k3)
      push_cast -dsimp [hkl,h]
      exact dn (by push_cast -dsimp [zb,za,CLe,zd,hd])
   ·push_cast -dsimp [hd0,k3]
    refine loop (fun i:Nat=>⟨[(2,.ptr 0 0),(3,.ptr 1 0),(8,.sc (.bool ((w.kept.take i).any (jt x)))),(9,.sc (.int .i64 i))],[Nb w,JG x],0,0⟩) (fun i=>i<=w.kept.length) (fun i=>w.kept.length-i) 0 (Nat.zero_le _) ?_ ?_
    ·exact wk (by push_cast -dsimp [zb,za,CLe,zd,List.take_zero,List.any_nil])
    ·intro i hi
     by_cases h:i<w.kept.length
     ·have g:=Jg w.kept i h
      have ha:=zqt (P:=jt x) h
      have hp:jt x w.kept[i]=(decide (w.kept[i].ino=x.ino)&&!w.kept[i].content):=rfl
      by_cases hn:((w.kept.take i).any (jt x))=true
      ·rw[hn,Bool.true_or]at ha
       push_cast -dsimp [hkl,h,hn]
       repeat refine an ?_
       exact ⟨i+1,h,by omega,wk (by push_cast -dsimp [zb,za,CLe,zd,ha])⟩
      ·have hn:=Bool.eq_false_iff.2 hn
       rw[hn,Bool.false_or,hp]at ha
       by_cases he:w.kept[i].ino=x.ino
       ·rw[decide_eq_true he,Bool.true_and]at ha
        push_cast -dsimp [hkl,h,hn,g,he]
        repeat refine an ?_
        exact ⟨i+1,h,by omega,wk (by push_cast -dsimp [zb,za,CLe,zd,ha])⟩
       ·rw[decide_eq_false he,Bool.false_and]at ha
        push_cast -dsimp [hkl,h,hn,g,he]
        repeat refine an ?_
        exact ⟨i+1,h,by omega,wk (by push_cast -dsimp [zb,za,CLe,zd,ha])⟩
     ·rw[List.take_of_length_le (by omega)]
      have hd:decide (qp w x)=w.kept.any (jt x):=key (fun h=>absurd h k2) (fun h=>absurd h k3)
      push_cast -dsimp [hkl,h]
      exact dn (by push_cast -dsimp [zb,za,CLe,zd,hd])
end
section
open CA CB
open Go.RowKit
def zgL (w:qR):Prop:=(∀ k∈w.kept,k.data.length<=5000)/\Vz w.fs.xs/\Vz w.pool/\w.kept.length<=40
instance (w:qR):Decidable (zgL w):=by unfold zgL;infer_instance
def Xj (w:qR) (k:zP):Prop:=k.slot<=1073741824/\(zt k.ino w.fs.xs=true∨zt k.ino w.pool=true)/\(k.content=true->(if zt k.ino w.pool=true then ze k.ino w.pool else ze k.ino w.fs.xs).kind=1)/\(k.content=false->k.data = [])
instance (w:qR) (k:zP):Decidable (Xj w k):=by unfold Xj;infer_instance
def XT (ks:List zP):Prop:=qF jN zP.slot ks/\∀ k∈ks,1<=k.slot
instance (ks:List zP):Decidable (XT ks):=by unfold XT qF;infer_instance
def Xm (w:qR):Prop:=Ji w.fs=0/\qh w.pool/\(∀ x∈w.pool,qp w x)/\XT w.kept/\∀ k∈w.kept,Xj w k
instance (w:qR):Decidable (Xm w):=by unfold Xm;infer_instance
def okW (w:qR):Prop:=zgL w/\Xm w
instance (w:qR):Decidable (okW w):=by unfold okW;infer_instance
theorem U1 {ks:List zP} (h:XT ks):0<=jH ks/\∀ k∈ks,k.slot<=jH ks:=by
 rcases List.eq_nil_or_concat ks with rfl | ⟨l,b,rfl⟩
 ·exact ⟨Int.le_refl 0,fun k hk=>by cases hk⟩
 ·rw[List.concat_eq_append]at h ⊢
  have hl:jH (l++[b])=b.slot:=by unfold jH;rw[List.getLast?_append];rfl
  rw[hl]
  have hb:=h.2 b (by simp)
  refine ⟨by omega,fun k hk=>?_⟩
  rcases List.mem_append.1 hk with hk | hk
  ·have:=(List.pairwise_append.1 h.1).2.2 k hk b (by simp)
   have:k.slot<b.slot:=of_decide_eq_true this
   omega
  ·rw[List.mem_singleton.1 hk];exact Int.le_refl _
theorem U2 {ks:List zP} {k:zP}:XT (ks++[k])↔XT ks/\jH ks<k.slot:=by
 constructor
 ·rintro ⟨h1,h2⟩
  have h0:XT ks:=⟨(List.pairwise_append.1 h1).1,fun x hx=>h2 x (List.mem_append_left _ hx)⟩
  refine ⟨h0,?_⟩
  rcases List.eq_nil_or_concat ks with rfl | ⟨l,b,rfl⟩
  ·have:=h2 k (by simp)
   show (0:Int)<k.slot
   omega
  ·rw[List.concat_eq_append]at h1 ⊢
   have hl:jH (l++[b])=b.slot:=by unfold jH;rw[List.getLast?_append];rfl
   rw[hl]
   exact of_decide_eq_true ((List.pairwise_append.1 h1).2.2 b (by simp) k (by simp))
 ·rintro ⟨h,hk⟩
  obtain ⟨q1,q2⟩:=U1 h
  refine ⟨List.pairwise_append.2 ⟨h.1,List.pairwise_singleton _ _,fun a ha b hb=>?_⟩,fun x hx=>?_⟩
  ·rw[List.mem_singleton.1 hb]
   have:=q2 a ha
   exact decide_eq_true (show a.slot<k.slot by omega)
  ·rcases List.mem_append.1 hx with hx | hx
   ·exact h.2 x hx
   ·rw[List.mem_singleton.1 hx];omega
theorem HC (w:qR):Fun Tryz.prog G0 50 [Vu w] (qu (decide (zgL w))) 0:=by
 have hkl:(zF w.kept).length=w.kept.length:=List.length_map ..
 have hf:=uo (G:=G0) w.fs
 have hq:=Ui (G:=G0) w
 have hp:=uo (G:=G0) ⟨0,0,0,w.pool⟩
 simp only at hp
 have fin:(∀ k∈w.kept.take 100,k.data.length<=5000)->(zgL w↔Vz w.fs.xs/\Vz w.pool/\w.kept.length<=40):=fun h=>by
  refine ⟨fun q=>q.2,fun q=>⟨?_,q⟩⟩
  rw[List.take_of_length_le (by have:=q.2.2;omega)]at h
  exact h
 refine fon Tryz.func50 ?_;dsimp only[Tryz.f50]
 push_cast -dsimp
 refine loop (fun i:Nat=>⟨[(1,.ptr 0 0),(3,.sc (.int .i64 i))],[Nb w],0,0⟩) (fun i=>i<=w.kept.length/\i<=100/\∀ k∈w.kept.take i,k.data.length<=5000) (fun i=>w.kept.length-i) 0 ⟨Nat.zero_le _,Nat.zero_le _,fun x hx=>by simp at hx⟩ ?_ ?_
 ·exact wk
 ·rintro i ⟨h1,h2,h3⟩
  have last:(∀ k∈w.kept.take 100,k.data.length<=5000)->decide (zgL w)=(decide (Vz w.fs.xs)&&(decide (Vz w.pool)&&decide (w.kept.length<=40))):=fun h=>by
   have:=fin h
   by_cases a:Vz w.fs.xs<;>by_cases b:Vz w.pool<;>by_cases c:w.kept.length<=40<;>simp[this,a,b,c]
  by_cases h:i<w.kept.length
  ·by_cases h100:i<100
   ·have g:=Jg w.kept i h
    have h100':((i:Int)<100)=True:=eq_true (by omega)
    by_cases hd:5000<(w.kept[i].data.length:Int)
    ·have hn:¬zgL w:=fun q=>by have:=q.1 _ (List.getElem_mem h);omega
     push_cast -dsimp [hkl,h,h100',g,hd]
     repeat refine an ?_
     exact dn (by push_cast -dsimp [zb,za,CLe,zd,hn])
    ·push_cast -dsimp [hkl,h,h100',g,hd]
     repeat refine an ?_
     exact ⟨i+1,⟨h,h100,qi h h3 (by omega)⟩,by omega,wk⟩
   ·have h100':((i:Int)<100)=False:=eq_false (by omega)
    have e:i=100:=by omega
    have hl:=last (by rw[←e];exact h3)
    have h40:((w.kept.length:Int)<=40)=False:=eq_false (by omega)
    rw[decide_eq_false (show ¬w.kept.length<=40 by omega)]at hl
    rw[hl]
    by_cases a:Vz w.fs.xs
    ·by_cases b:Vz w.pool
     ·push_cast -dsimp [hkl,h,h100']
      refine cl (hf) ?_;push_cast -dsimp [decide_eq_true a]
      refine cl (hq) ?_;push_cast -dsimp
      refine cl (hp) ?_;push_cast -dsimp [decide_eq_true b,hkl,h40]
      exact dn (by push_cast -dsimp [zb,za,CLe,zd,a,b,Bool.false_and])
     ·push_cast -dsimp [hkl,h,h100']
      refine cl (hf) ?_;push_cast -dsimp [decide_eq_true a]
      refine cl (hq) ?_;push_cast -dsimp
      refine cl (hp) ?_;push_cast -dsimp [decide_eq_false b]
      exact dn (by push_cast -dsimp [zb,za,CLe,zd,a,b,Bool.false_and])
    ·push_cast -dsimp [hkl,h,h100']
     refine cl (hf) ?_;push_cast -dsimp [decide_eq_false a]
     exact dn (by push_cast -dsimp [zb,za,CLe,zd,a,Bool.false_and])
  ·rw[List.take_of_length_le (by omega)]at h3
   have hl:=last fun k hk=>h3 k (List.mem_of_mem_take hk)
   rw[hl]
   by_cases a:Vz w.fs.xs
   ·by_cases b:Vz w.pool
    ·by_cases c:w.kept.length<=40
     ·have h40:((w.kept.length:Int)<=40)=True:=eq_true (by omega)
      push_cast -dsimp [hkl,h]
      refine cl (hf) ?_;push_cast -dsimp [decide_eq_true a]
      refine cl (hq) ?_;push_cast -dsimp
      refine cl (hp) ?_;push_cast -dsimp [decide_eq_true b,hkl,h40]
      exact dn (by push_cast -dsimp [zb,za,CLe,zd,a,b,c,Bool.false_and])
     ·have h40:((w.kept.length:Int)<=40)=False:=eq_false (by omega)
      push_cast -dsimp [hkl,h]
      refine cl (hf) ?_;push_cast -dsimp [decide_eq_true a]
      refine cl (hq) ?_;push_cast -dsimp
      refine cl (hp) ?_;push_cast -dsimp [decide_eq_true b,hkl,h40]
      exact dn (by push_cast -dsimp [zb,za,CLe,zd,a,b,c,Bool.false_and])
    ·push_cast -dsimp [hkl,h]
     refine cl (hf) ?_;push_cast -dsimp [decide_eq_true a]
     refine cl (hq) ?_;push_cast -dsimp
     refine cl (hp) ?_;push_cast -dsimp [decide_eq_false b]
     exact dn (by push_cast -dsimp [zb,za,CLe,zd,a,b,Bool.false_and])
   ·push_cast -dsimp [hkl,h]
    refine cl (hf) ?_;push_cast -dsimp [decide_eq_false a]
    exact dn (by push_cast -dsimp [zb,za,CLe,zd,a,Bool.false_and])
structure zr8 (w:qR):Prop where
 fs:FsS w.fs
 kept:w.kept.length<=10000
 pool:FsS ⟨0,0,0,w.pool⟩
theorem ve (w:qR) (hw:zr8 w):Fun Tryz.prog G0 51 [Vu w] (qu (decide (Xm w))) 0:=by
 have hfl:=hw.fs.len
 have hkk:=hw.kept
 have hpp:w.pool.length<=10000:=hw.pool.len
 have hkl:(zF w.kept).length=w.kept.length:=List.length_map ..
 have hpl:(zq w.pool).length=w.pool.length:=List.length_map ..
 have hch:=zdK w.fs hw.fs
 have hq:=Ui (G:=G0) w
 have hri:=VY (G:=G0) ⟨0,0,0,w.pool⟩ (by simp only;omega)
 by_cases c1:Ji w.fs=0
 case neg =>
  have hn:¬Xm w:=fun h=>c1 h.1
  refine fof (fun i=>if i=14 then jh 8 9 else []) Tryz.func51 ?_;dsimp only[Tryz.f51]
  push_cast -dsimp
  refine cl (hch) ?_;push_cast -dsimp [c1]
  exact dn (by push_cast -dsimp [zb,za,CLe,zd,hn])
 by_cases c2:qh w.pool
 case neg =>
  have hn:¬Xm w:=fun h=>c2 h.2.1
  rw[decide_eq_false c2]at hri
  refine fof (fun i=>if i=14 then jh 8 9 else []) Tryz.func51 ?_;dsimp only[Tryz.f51]
  push_cast -dsimp
  refine cl (hch) ?_;push_cast -dsimp [c1]
  refine cl (hq) ?_;push_cast -dsimp
  refine cl (hri) ?_;push_cast -dsimp
  exact dn (by push_cast -dsimp [zb,za,CLe,zd,hn])
 rw[decide_eq_true c2]at hri
 refine fof (fun i=>if i=14 then jh 8 9 else []) Tryz.func51 ?_;dsimp only[Tryz.f51]
 push_cast -dsimp
 refine cl (hch) ?_;push_cast -dsimp [c1]
 refine cl (hq) ?_;push_cast -dsimp
 refine cl (hri) ?_;push_cast -dsimp
 refine loop (fun i:Nat=>⟨[(1,.ptr 0 0),(3,.sc (.int .i64 i))],[Nb w],0,0⟩) (fun i=>i<=w.pool.length/\∀ x∈w.pool.take i,qp w x) (fun i=>w.pool.length-i) 0 ⟨Nat.zero_le _,fun x hx=>by simp at hx⟩ ?_ ?_
 ·exact wk
 rintro i ⟨h1,h2⟩
 by_cases h:i<w.pool.length
 ·have g:=qJ w.pool i h
  have hn:=hw.pool.node _ (List.getElem_mem h)
  have hpo:=za5 w w.pool[i] (by omega) (by omega) (by omega) (by omega)
  by_cases c3:qp w w.pool[i]
  ·rw[decide_eq_true c3]at hpo
   push_cast -dsimp [hpl,h,g]
   repeat refine an ?_
   refine cl (hpo) ?_;push_cast -dsimp
   repeat refine an ?_
   exact ⟨i+1,⟨h,qi h h2 c3⟩,by omega,wk⟩
  ·rw[decide_eq_false c3]at hpo
   have hn:¬Xm w:=fun q=>c3 (q.2.2.1 _ (List.getElem_mem h))
   push_cast -dsimp [hpl,h,g]
   repeat refine an ?_
   refine cl (hpo) ?_;push_cast -dsimp
   exact dn (by push_cast -dsimp [zb,za,CLe,zd,hn])
 rw[List.take_of_length_le (by omega)]at h2
 have hs0:XT []:=⟨List.Pairwise.nil,fun k hk=>by cases hk⟩
 have hl0:jH []=0:=rfl
 push_cast -dsimp [hpl,h]
 clear hri hq hch
 refine loop (fun i:Nat=>⟨[(1,.ptr 0 0),(4,.sc (.int .i64 (jH (w.kept.take i)))),(5,.sc (.int .i64 i))],[Nb w],0,0⟩) (fun i=>i<=w.kept.length/\XT (w.kept.take i)/\∀ k∈w.kept.take i,Xj w k) (fun i=>w.kept.length-i) 0 ⟨Nat.zero_le _,by rw[List.take_zero];exact hs0,fun x hx=>by simp at hx⟩ ?_ ?_
 ·exact wk (by push_cast -dsimp [zb,za,CLe,zd,List.take_zero,hl0])
 rintro i ⟨i1,i2,i3⟩
 by_cases hi:i<w.kept.length
 case neg =>
  rw[List.take_of_length_le (by omega)]at i2 i3
  have hn:Xm w:=⟨c1,c2,h2,i2,i3⟩
  push_cast -dsimp [hkl,hi]
  exact dn (by push_cast -dsimp [zb,za,CLe,zd,hn])
 have g:=Jg w.kept i hi
 have hlt:=Ue hi
 have hst:w.kept.take (i+1)=w.kept.take i++[w.kept[i]]:=by rw[List.take_add_one,List.getElem?_eq_getElem hi];rfl
 have hbad1:¬jH (w.kept.take i)<w.kept[i].slot->¬Xm w:=fun hn q=>hn (U2.1 (by
  rw[←hst]
  exact ⟨q.2.2.2.1.1.sublist (List.take_sublist _ _),fun k hk=>q.2.2.2.1.2 k (List.mem_of_mem_take hk)⟩)).2
 have hbad2:¬Xj w w.kept[i]->¬Xm w:=fun hn q=>hn (q.2.2.2.2 _ (List.getElem_mem hi))
 have hgood:jH (w.kept.take i)<w.kept[i].slot->XT (w.kept.take (i+1)):=fun q=>by rw[hst];exact U2.2 ⟨i2,q⟩
 have hgood2:Xj w w.kept[i]->∀ k∈w.kept.take (i+1),Xj w k:=fun q=>qi hi i3 q
 have hg1:=qN (G:=G0) w.fs w.kept[i].ino (by omega)
 have hq:=Ui (G:=G0) w
 have hg2:=qN (G:=G0) ⟨0,0,0,w.pool⟩ w.kept[i].ino (by simp only;omega)
 simp only at hg2
 generalize w.kept[i]=k at g hlt hbad1 hbad2 hgood hgood2 hg1 hg2
 generalize jH (w.kept.take i)=la at hbad1 hgood
 clear hst i2 i3
 by_cases d1:k.slot<=la
 ·have hn:=hbad1 (by omega)
  push_cast -dsimp [hkl,hi,g]
  repeat refine an ?_
  refine cl (hg1) ?_;push_cast -dsimp
  refine cl (hq) ?_;push_cast -dsimp
  refine cl (hg2) ?_;push_cast -dsimp [d1]
  exact dn (by push_cast -dsimp [zb,za,CLe,zd,hn])
 have hgd:=hgood (by omega)
 by_cases d2:1073741824<k.slot
 ·have hn:=hbad2 fun q=>by have:=q.1;omega
  push_cast -dsimp [hkl,hi,g]
  repeat refine an ?_
  refine cl (hg1) ?_;push_cast -dsimp
  refine cl (hq) ?_;push_cast -dsimp
  refine cl (hg2) ?_;push_cast -dsimp [d1,d2]
  exact dn (by push_cast -dsimp [zb,za,CLe,zd,hn])
 cases e2:zt k.ino w.pool with
 | true =>
  rw[e2]at hg2
  by_cases d4:k.content=true
  ·by_cases d5:(ze k.ino w.pool).kind=1
   ·have hok:Xj w k:=⟨by omega,.inr e2,fun _=>by rw[if_pos e2];exact d5,fun q=>by rw[d4]at q;cases q⟩
    cases e1:zt k.ino w.fs.xs <;>
    ·rw[e1]at hg1
     push_cast -dsimp [hkl,hi,g]
     repeat refine an ?_
     refine cl (hg1) ?_;push_cast -dsimp
     refine cl (hq) ?_;push_cast -dsimp
     refine cl (hg2) ?_;push_cast -dsimp [d1,d2,d4,d5]
     repeat refine an ?_
     exact ⟨i+1,⟨hi,hgd,hgood2 hok⟩,by omega,wk (by push_cast -dsimp [zb,za,CLe,zd,hlt])⟩
   ·have hn:=hbad2 fun q=>d5 (by have:=q.2.2.1 d4;rwa [if_pos e2]at this)
    cases e1:zt k.ino w.fs.xs <;>
    ·rw[e1]at hg1
     push_cast -dsimp [hkl,hi,g]
     repeat refine an ?_
     refine cl (hg1) ?_;push_cast -dsimp
     refine cl (hq) ?_;push_cast -dsimp
     refine cl (hg2) ?_;push_cast -dsimp [d1,d2,d4,d5]
     exact dn (by push_cast -dsimp [zb,za,CLe,zd,hn])
  ·have d4:=Bool.eq_false_iff.2 d4
   by_cases d6:k.data = []
   ·have hok:Xj w k:=⟨by omega,.inr e2,fun q=>(by rw[d4]at q;cases q),fun _=>d6⟩
    cases e1:zt k.ino w.fs.xs <;>
    ·rw[e1]at hg1
     push_cast -dsimp [hkl,hi,g]
     repeat refine an ?_
     refine cl (hg1) ?_;push_cast -dsimp
     refine cl (hq) ?_;push_cast -dsimp
     refine cl (hg2) ?_;push_cast -dsimp [d1,d2,d4,d6]
     repeat refine an ?_
     exact ⟨i+1,⟨hi,hgd,hgood2 hok⟩,by omega,wk (by push_cast -dsimp [zb,za,CLe,zd,hlt])⟩
   ·have hn:=hbad2 fun q=>d6 (q.2.2.2 d4)
    cases e1:zt k.ino w.fs.xs <;>
    ·rw[e1]at hg1
     push_cast -dsimp [hkl,hi,g]
     repeat refine an ?_
     refine cl (hg1) ?_;push_cast -dsimp
     refine cl (hq) ?_;push_cast -dsimp
     refine cl (hg2) ?_;push_cast -dsimp [d1,d2,d4,d6]
     exact dn (by push_cast -dsimp [zb,za,CLe,zd,hn])
 | false =>
  rw[e2]at hg2
  cases e1:zt k.ino w.fs.xs with
  | false =>
   rw[e1]at hg1
   have hn:=hbad2 fun q=>by
    rcases q.2.1 with q | q
    ·rw[e1]at q;cases q
    ·rw[e2]at q;cases q
   push_cast -dsimp [hkl,hi,g]
   repeat refine an ?_
   refine cl (hg1) ?_;push_cast -dsimp
   refine cl (hq) ?_;push_cast -dsimp
   refine cl (hg2) ?_;push_cast -dsimp [d1,d2]
   exact dn (by push_cast -dsimp [zb,za,CLe,zd,hn])
  | true =>
   rw[e1]at hg1
   have e2':¬zt k.ino w.pool=true:=by rw[e2];decide
   by_cases d4:k.content=true
   ·by_cases d5:(ze k.ino w.fs.xs).kind=1
    ·have hok:Xj w k:=⟨by omega,.inl e1,fun _=>by rw[if_neg e2'];exact d5,fun q=>by rw[d4]at q;cases q⟩
     push_cast -dsimp [hkl,hi,g]
     repeat refine an ?_
     refine cl (hg1) ?_;push_cast -dsimp
     refine cl (hq) ?_;push_cast -dsimp
     refine cl (hg2) ?_;push_cast -dsimp [d1,d2,d4,d5]
     repeat refine an ?_
     exact ⟨i+1,⟨hi,hgd,hgood2 hok⟩,by omega,wk (by push_cast -dsimp [zb,za,CLe,zd,hlt])⟩
    ·have hn:=hbad2 fun q=>d5 (by have:=q.2.2.1 d4;rwa [if_neg e2']at this)
     push_cast -dsimp [hkl,hi,g]
     repeat refine an ?_
     refine cl (hg1) ?_;push_cast -dsimp
     refine cl (hq) ?_;push_cast -dsimp
     refine cl (hg2) ?_;push_cast -dsimp [d1,d2,d4,d5]
     exact dn (by push_cast -dsimp [zb,za,CLe,zd,hn])
   ·have d4:=Bool.eq_false_iff.2 d4
    by_cases d6:k.data = []
    ·have hok:Xj w k:=⟨by omega,.inl e1,fun q=>(by rw[d4]at q;cases q),fun _=>d6⟩
     push_cast -dsimp [hkl,hi,g]
     repeat refine an ?_
     refine cl (hg1) ?_;push_cast -dsimp
     refine cl (hq) ?_;push_cast -dsimp
     refine cl (hg2) ?_;push_cast -dsimp [d1,d2,d4,d6]
     repeat refine an ?_
     exact ⟨i+1,⟨hi,hgd,hgood2 hok⟩,by omega,wk (by push_cast -dsimp [zb,za,CLe,zd,hlt])⟩
    ·have hn:=hbad2 fun q=>d6 (q.2.2.2 d4)
     push_cast -dsimp [hkl,hi,g]
     repeat refine an ?_
     refine cl (hg1) ?_;push_cast -dsimp
     refine cl (hq) ?_;push_cast -dsimp
     refine cl (hg2) ?_;push_cast -dsimp [d1,d2,d4,d6]
     exact dn (by push_cast -dsimp [zb,za,CLe,zd,hn])
theorem zgL.m {w:qR} (h:zgL w):zr8 w:=⟨h.2.1.fs,by have:=h.2.2.2;omega,Vz.fs (f:=⟨0,0,0,w.pool⟩) h.2.2.1⟩
theorem zeg (w:qR):Fun Tryz.prog G0 22 [Vu w] (qu (decide (okW w))) 0:=by
 by_cases c:zgL w
 ·have h1:=HC w
  have h2:=ve w c.m
  rw[decide_eq_true c]at h1
  have e:decide (okW w)=decide (Xm w):=by by_cases r:Xm w<;>simp[okW,c,r]
  refine fon Tryz.func22 ?_;dsimp only[Tryz.f22]
  push_cast -dsimp
  refine cl (h1) ?_;push_cast -dsimp
  refine cl (h2) ?_;push_cast -dsimp
  exact dn (by push_cast -dsimp [zb,za,CLe,zd,e])
 ·have h1:=HC w
  rw[decide_eq_false c]at h1
  have e:¬okW w:=fun h=>c h.1
  refine fon Tryz.func22 ?_;dsimp only[Tryz.f22]
  push_cast -dsimp
  refine cl (h1) ?_;push_cast -dsimp
  exact dn (by push_cast -dsimp [zb,za,CLe,zd,e])
end
section
open Go.RowKit
section
variable {G:zo}
theorem zeC (n:Nat) (hn:n<=200000) (h0:0<n):Xh Tryz.prog G 161 [.sc (.slice none 0 0),.sc (.int .i64 n)] [] 0 (fun r bx' m=>m=0/\∃ (c:Nat) (B:List C),n<=c/\c<=9223372036854775807/\B.length=c*5/\(B.all C.stayB)=true/\r = .bs 0 0 5 0 c/\bx' = [B]):=by
 have hp:((n:Int)<0)=False:=eq_false (by omega)
 have hq:((0:Int)<(n:Int))=True:=eq_true (by omega)
 refine foX (fun i=>if i=1000000+37 then [true,true] else []) Tryz.func161 ?_;dsimp only[Tryz.f161]
 push_cast -dsimp [hp,hq]
 refine ⟨⟨by omega,by omega⟩,zcJ zjK znC ziW rfl (by decide) rfl (by omega) (by omega) (by omega) (fun c h1 h2=>?_)⟩
 push_cast -dsimp
 have hm:(n:Int).toNat=n:=by omega
 rw[hm]at h1
 have h2:c<=9223372036854775807:=h2
 refine ⟨by omega,by omega,_,[(List.replicate n [C.sc (.int .i64 0),C.sc (.int .i64 0),C.str [],C.str [],C.str []]).flatten++List.replicate ((c-n)*5) C.any],0,⟨⟨rfl,c,_,h1,h2,?_,?_,rfl,rfl⟩,Nat.zero_le _⟩,[],rfl,rfl,?_,by push_cast -dsimp [zb,za,CLe,zd]⟩
 ·simp[hm];omega
 ·simp[List.all_append,List.all_replicate,C.stayB]
 ·push_cast -dsimp [zb,za,CLe,zd]
  exact zR (by simp[List.all_append,List.all_replicate,C.stayB])
theorem zaO:Fun Tryz.prog G 103 [.sc (.slice none 0 0),.sc (.int .i64 0)] (.sc (.slice none 0 0)) 0:=by
 refine fon Tryz.func103 ?_;dsimp only[Tryz.f103]
 push_cast -dsimp
 exact dn
theorem zcH (n:Nat) (hn:n<=200000) (h0:0<n):Xh Tryz.prog G 103 [.sc (.slice none 0 0),.sc (.int .i64 n)] [] 0 (fun r bx' m=>m=0/\∃ (c:Nat) (B:List C),n<=c/\c<=9223372036854775807/\B.length=c*1/\(B.all C.stayB)=true/\r = .bs 0 0 1 0 c/\bx' = [B]):=by
 have hp:((n:Int)<0)=False:=eq_false (by omega)
 have hq:((0:Int)<(n:Int))=True:=eq_true (by omega)
 refine foX (fun i=>if i=1000000+30 then [true,true] else []) Tryz.func103 ?_;dsimp only[Tryz.f103]
 push_cast -dsimp [hp,hq]
 refine ⟨⟨by omega,by omega⟩,zcJ kB znC zgK rfl (by decide) rfl (by omega) (by omega) (by omega) (fun c h1 h2=>?_)⟩
 push_cast -dsimp
 have hm:(n:Int).toNat=n:=by omega
 rw[hm]at h1
 have h2:c<=9223372036854775807:=h2
 refine ⟨by omega,by omega,_,[(List.replicate n [C.str []]).flatten++List.replicate ((c-n)*1) C.any],0,⟨⟨rfl,c,_,h1,h2,?_,?_,rfl,rfl⟩,Nat.zero_le _⟩,[],rfl,rfl,?_,by push_cast -dsimp [zb,za,CLe,zd]⟩
 ·simp[hm];omega
 ·simp[List.all_append,List.all_replicate,C.stayB]
 ·push_cast -dsimp [zb,za,CLe,zd]
  exact zR (by simp[List.all_append,List.all_replicate,C.stayB])
end
end
section
open CA CB
open Go.RowKit
def szN (a b:Nat):Nat->Nat
 | 0=>0
 | 1=>a
 | _=>a+b
def zn5 {α:Type} (a b:List α):Nat->List α
 | 0=>[]
 | 1=>a
 | _=>a++b
structure HO (k c:Nat) (a b:List (List C)) (j:Nat) (X:List C):Prop where
 len:X.length=c*k
 stay:(X.all C.stayB)=true
 cells:X.take (szN a.length b.length j*k)=(zn5 a b j).flatten
theorem HO.step {k c:Nat} {a b r:List (List C)} {j:Nat} {X:List C} (h:HO k c a b j X) (hr:zn5 a b (j+1)=zn5 a b j++r) (hn:szN a.length b.length (j+1)=szN a.length b.length j+r.length) (hk:∀ x∈r,x.length=k) (hs:ji r) (hc:szN a.length b.length (j+1)<=c) :
  HO k c a b (j+1) (spl X (szN a.length b.length j*k) r.flatten):=by
 have hf:=zN hk
 obtain ⟨h1,h2,h3⟩:=h
 have hle:(szN a.length b.length j+r.length)*k<=c*k:=Nat.mul_le_mul_right k (by omega)
 rw[Nat.add_mul]at hle
 refine ⟨by rw[ZC (by omega)];exact h1,?_,?_⟩
 ·unfold spl
  rw[List.all_append,List.all_append,Bool.and_eq_true,Bool.and_eq_true]
  rw[List.all_eq_true]at h2
  exact ⟨⟨List.all_eq_true.2 fun x hx=>h2 x (List.mem_of_mem_take hx),YO hs⟩,List.all_eq_true.2 fun x hx=>h2 x (List.mem_of_mem_drop hx)⟩
 ·unfold spl
  rw[hn,Nat.add_mul,hr,List.flatten_append,←h3,List.append_assoc,List.take_append]
  have e1:(X.take (szN a.length b.length j*k)).length=szN a.length b.length j*k:=by rw[List.length_take];omega
  rw[e1,List.take_of_length_le (by omega),Nat.add_sub_cancel_left,List.take_append,←hf,List.take_of_length_le (Nat.le_refl _)]
  simp
structure zpp (k c:Nat) (rows:List (List C)) (B:List C):Prop where
 fit:rows.length<=c
 max:c<=9223372036854775807
 len:B.length=c*k
 stay:(B.all C.stayB)=true
 cells:B.take (rows.length*k)=rows.flatten
theorem zpp.ok {k c e i:Nat} {rows:List (List C)} {B:List C} {bx:List (List C)} (h:zpp k c rows B) (hb:bx[i]?=some B) (h0:0<rows.length) (hk:∀ r∈rows,r.length=k):zbG [(i,e,k,rows,c)] bx:=
 vX hb (Nat.lt_of_lt_of_le h0 h.fit) h.fit h.max h.len hk h.stay h.cells
section
variable {G:zo}
theorem zdX (a b:List (List C)) (ka:∀ r∈a,r.length=5) (kb:∀ r∈b,r.length=5) (sa:ji a) (sb:ji b) (la:a.length<=90000) (lb:b.length<=90000) (h0:0<a.length+b.length) :
  Xh Tryz.prog G 123 [.sl 1 [[.sl 5 a],[.sl 5 b]]] [] 0 (fun r bx n=>n=0/\∃ c B,zpp 5 c (a++b) B/\r = .bs 0 0 5 (a++b).length c/\bx = [B]):=by
 refine foX (fun i=>if i=1000000+37 then [true,true] else []) Tryz.func123 ?_;dsimp only[Tryz.f123]
 push_cast -dsimp
 refine loop (fun j:Nat=>⟨[(0,.sl 1 [[.sl 5 a],[.sl 5 b]]),(2,.sc (.slice none 0 0)),(3,.sc (.int .i64 (szN a.length b.length j:Nat))),(9,.sl 1 [[.sl 5 a],[.sl 5 b]]),(10,.sc (.int .i64 2)),(11,.sc (.int .i64 j))],[],0,0⟩) (fun j=>j<=2) (fun j=>2-j) 0 (by decide) ?_ ?_
 ·exact wk (by push_cast -dsimp [zb,za,CLe,zd,szN])
 intro j hj
 obtain rfl | rfl | rfl:j=0∨j=1∨j=2:=by omega
 ·have hn:(((a.length:Int))<0)=False:=eq_false (by omega)
  push_cast -dsimp [szN,hn]
  exact ⟨⟨by omega,by omega⟩,1,by decide,by decide,wk (by push_cast -dsimp [zb,za,CLe,zd,szN])⟩
 ·have hn:(((a.length:Int)+(b.length:Int))<0)=False:=eq_false (by omega)
  push_cast -dsimp [szN,hn]
  exact ⟨⟨by omega,by omega⟩,2,by decide,by decide,wk (by push_cast -dsimp [zb,za,CLe,zd,szN])⟩
 ·push_cast -dsimp [szN]
  refine jY [] [] (zeC (G:=G) (a.length+b.length) (by omega) (by omega)) rfl (by decide) (by decide) (by simp) (by push_cast -dsimp) (by push_cast -dsimp) (fun r bx' m hp=>?_)
  obtain ⟨rfl,c,B,h1,h2,h3,h4,rfl,rfl⟩:=hp
  have hre:∀ fp fo,C.reL fp fo B=B:=fun fp fo=>zC h4
  push_cast -dsimp [hre]
  refine loop (fun p:Nat×List C=>⟨[(0,.sl 1 [[.sl 5 a],[.sl 5 b]]),(6,.bs 0 0 5 (szN a.length b.length p.1) c),(25,.sl 1 [[.sl 5 a],[.sl 5 b]]),(26,.sc (.int .i64 2)),(27,.sc (.int .i64 p.1))],[p.2],0,0⟩) (fun p=>p.1<=2/\HO 5 c a b p.1 p.2) (fun p=>2-p.1) (0,B) ⟨Nat.zero_le _,h3,h4,by simp[szN,zn5]⟩ ?_ ?_
  ·exact j8.mk [] rfl rfl (Nat.zero_le _) rfl (by push_cast -dsimp [zb,za,CLe,zd,szN]) (by (push_cast -dsimp [zb,za,CLe,zd];exact zR h4))
  rintro ⟨j,X⟩ ⟨hj,hX⟩
  have hj:j<=2:=hj
  obtain rfl | rfl | rfl:j=0∨j=1∨j=2:=by omega
  ·have hs:=hX.step (r:=a) rfl (by simp[szN]) ka sa (by simp[szN];omega)
   push_cast -dsimp [szN]
   refine Z7 zjK ziW rfl rfl (by decide) rfl (zN ka) rfl (by rw[hX.len];omega) (Nat.zero_le _) (by omega) (by omega) (fun hc=>?_) (fun hc=>absurd hc (by omega))
   push_cast -dsimp
   have hs:HO 5 c a b 1 (spl X 0 a.flatten):=by simpa [szN] using hs
   exact ⟨(1,spl X 0 a.flatten),⟨Nat.le_succ 1,hs⟩,by (simp only;omega),j8.mk [] rfl rfl (Nat.zero_le _) rfl (by push_cast -dsimp [zb,za,CLe,zd,szN]) (by (push_cast -dsimp [zb,za,CLe,zd];exact zR hs.stay))⟩
  ·have hs:=hX.step (r:=b) rfl (by simp[szN]) kb sb (by simp[szN];omega)
   push_cast -dsimp [szN]
   refine Z7 zjK ziW rfl rfl (by decide) rfl (zN kb) rfl (by rw[hX.len];omega) (by omega) (by omega) (by omega) (fun hc=>?_) (fun hc=>absurd hc (by omega))
   push_cast -dsimp
   have hs:HO 5 c a b 2 (spl X (a.length*5) b.flatten):=by simpa [szN] using hs
   exact ⟨(2,spl X (a.length*5) b.flatten),⟨Nat.le_refl 2,hs⟩,by (simp only;omega),j8.mk [] rfl rfl (Nat.zero_le _) rfl (by push_cast -dsimp [zb,za,CLe,zd,szN]) (by (push_cast -dsimp [zb,za,CLe,zd];exact zR hs.stay))⟩
  ·push_cast -dsimp [szN]
   exact ⟨_,[X],0,⟨⟨rfl,c,X,⟨by rw[List.length_append];omega,h2,hX.len,hX.stay,by rw[List.length_append];exact hX.cells⟩,rfl,rfl⟩,Nat.zero_le _⟩,[],rfl,rfl,by (push_cast -dsimp [zb,za,CLe,zd];exact zR hX.stay),by push_cast -dsimp [zb,za,CLe,zd,List.length_append]⟩
theorem NM (a b:List (List C)) (ka:∀ r∈a,r.length=1) (kb:∀ r∈b,r.length=1) (sa:ji a) (sb:ji b) (la:a.length<=90000) (lb:b.length<=90000) (h0:0<a.length+b.length) :
  Xh Tryz.prog G 58 [.sl 1 [[.sl 1 a],[.sl 1 b]]] [] 0 (fun r bx n=>n=0/\∃ c B,zpp 1 c (a++b) B/\r = .bs 0 0 1 (a++b).length c/\bx = [B]):=by
 refine foX (fun i=>if i=1000000+30 then [true,true] else []) Tryz.func58 ?_;dsimp only[Tryz.f58]
 push_cast -dsimp
 refine loop (fun j:Nat=>⟨[(0,.sl 1 [[.sl 1 a],[.sl 1 b]]),(2,.sc (.slice none 0 0)),(3,.sc (.int .i64 (szN a.length b.length j:Nat))),(9,.sl 1 [[.sl 1 a],[.sl 1 b]]),(10,.sc (.int .i64 2)),(11,.sc (.int .i64 j))],[],0,0⟩) (fun j=>j<=2) (fun j=>2-j) 0 (by decide) ?_ ?_
 ·exact wk (by push_cast -dsimp [zb,za,CLe,zd,szN])
 intro j hj
 obtain rfl | rfl | rfl:j=0∨j=1∨j=2:=by omega
 ·have hn:(((a.length:Int))<0)=False:=eq_false (by omega)
  push_cast -dsimp [szN,hn]
  exact ⟨⟨by omega,by omega⟩,1,by decide,by decide,wk (by push_cast -dsimp [zb,za,CLe,zd,szN])⟩
 ·have hn:(((a.length:Int)+(b.length:Int))<0)=False:=eq_false (by omega)
  push_cast -dsimp [szN,hn]
  exact ⟨⟨by omega,by omega⟩,2,by decide,by decide,wk (by push_cast -dsimp [zb,za,CLe,zd,szN])⟩
 ·push_cast -dsimp [szN]
  refine jY [] [] (zcH (G:=G) (a.length+b.length) (by omega) (by omega)) rfl (by decide) (by decide) (by simp) (by push_cast -dsimp) (by push_cast -dsimp) (fun r bx' m hp=>?_)
  obtain ⟨rfl,c,B,h1,h2,h3,h4,rfl,rfl⟩:=hp
  have hre:∀ fp fo,C.reL fp fo B=B:=fun fp fo=>zC h4
  push_cast -dsimp [hre]
  refine loop (fun p:Nat×List C=>⟨[(0,.sl 1 [[.sl 1 a],[.sl 1 b]]),(6,.bs 0 0 1 (szN a.length b.length p.1) c),(25,.sl 1 [[.sl 1 a],[.sl 1 b]]),(26,.sc (.int .i64 2)),(27,.sc (.int .i64 p.1))],[p.2],0,0⟩) (fun p=>p.1<=2/\HO 1 c a b p.1 p.2) (fun p=>2-p.1) (0,B) ⟨Nat.zero_le _,h3,h4,by simp[szN,zn5]⟩ ?_ ?_
  ·exact j8.mk [] rfl rfl (Nat.zero_le _) rfl (by push_cast -dsimp [zb,za,CLe,zd,szN]) (by (push_cast -dsimp [zb,za,CLe,zd];exact zR h4))
  rintro ⟨j,X⟩ ⟨hj,hX⟩
  have hj:j<=2:=hj
  obtain rfl | rfl | rfl:j=0∨j=1∨j=2:=by omega
  ·have hs:=hX.step (r:=a) rfl (by simp[szN]) ka sa (by simp[szN];omega)
   push_cast -dsimp [szN]
   refine Z7 kB zgK rfl rfl (by decide) rfl (zN ka) rfl (by rw[hX.len];omega) (Nat.zero_le _) (by omega) (by omega) (fun hc=>?_) (fun hc=>absurd hc (by omega))
   push_cast -dsimp
   have hs:HO 1 c a b 1 (spl X 0 a.flatten):=by simpa [szN] using hs
   exact ⟨(1,spl X 0 a.flatten),⟨Nat.le_succ 1,hs⟩,by (simp only;omega),j8.mk [] rfl rfl (Nat.zero_le _) rfl (by push_cast -dsimp [zb,za,CLe,zd,szN]) (by (push_cast -dsimp [zb,za,CLe,zd];exact zR hs.stay))⟩
  ·have hs:=hX.step (r:=b) rfl (by simp[szN]) kb sb (by simp[szN];omega)
   push_cast -dsimp [szN]
   refine Z7 kB zgK rfl rfl (by decide) rfl (zN kb) rfl (by rw[hX.len];omega) (by omega) (by omega) (by omega) (fun hc=>?_) (fun hc=>absurd hc (by omega))
   push_cast -dsimp
   have hs:HO 1 c a b 2 (spl X (a.length) b.flatten):=by simpa [szN] using hs
   exact ⟨(2,spl X (a.length) b.flatten),⟨Nat.le_refl 2,hs⟩,by (simp only;omega),j8.mk [] rfl rfl (Nat.zero_le _) rfl (by push_cast -dsimp [zb,za,CLe,zd,szN]) (by (push_cast -dsimp [zb,za,CLe,zd];exact zR hs.stay))⟩
  ·push_cast -dsimp [szN]
   exact ⟨_,[X],0,⟨⟨rfl,c,X,⟨by rw[List.length_append];omega,h2,hX.len,hX.stay,by rw[List.length_append];exact hX.cells⟩,rfl,rfl⟩,Nat.zero_le _⟩,[],rfl,rfl,by (push_cast -dsimp [zb,za,CLe,zd];exact zR hX.stay),by push_cast -dsimp [zb,za,CLe,zd,List.length_append]⟩
theorem Mt:Fun Tryz.prog G 58 [.sl 1 [[.sl 1 []],[.sl 1 []]]] (.sl 1 []) 0:=by
 refine fon Tryz.func58 ?_;dsimp only[Tryz.f58]
 push_cast -dsimp
 refine loop (fun j:Nat=>⟨[(0,.sl 1 [[.sl 1 []],[.sl 1 []]]),(2,.sc (.slice none 0 0)),(3,.sc (.int .i64 0)),(9,.sl 1 [[.sl 1 []],[.sl 1 []]]),(10,.sc (.int .i64 2)),(11,.sc (.int .i64 j))],[],0,0⟩) (fun j=>j<=2) (fun j=>2-j) 0 (by decide) ?_ ?_
 ·exact wk
 intro j hj
 obtain rfl | rfl | rfl:j=0∨j=1∨j=2:=by omega
 ·push_cast -dsimp
  exact ⟨1,by decide,by decide,wk⟩
 ·push_cast -dsimp
  exact ⟨2,by decide,by decide,wk⟩
 ·push_cast -dsimp
  refine cl (zaO) ?_;push_cast -dsimp
  refine loop (fun j:Nat=>⟨[(0,.sl 1 [[.sl 1 []],[.sl 1 []]]),(6,.own 0 9 1 []),(25,.sl 1 [[.sl 1 []],[.sl 1 []]]),(26,.sc (.int .i64 2)),(27,.sc (.int .i64 j))],[],1,0⟩) (fun j=>j<=2) (fun j=>2-j) 0 (by decide) ?_ ?_
  ·exact wks [.inr (9,1)]
  intro j hj
  obtain rfl | rfl | rfl:j=0∨j=1∨j=2:=by omega
  ·push_cast -dsimp
   exact ⟨1,by decide,by decide,wks [.inl 0]⟩
  ·push_cast -dsimp
   exact ⟨2,by decide,by decide,wks [.inl 0]⟩
  ·push_cast -dsimp
   exact dn
end
end
end Go.Proofs.YtlkjpfiancahiaaGreatDoor.Vcg
section
namespace Go.Proofs.YtlkjpfiancahiaaGreatDoor.Kit
open Go.RowKit
theorem Ha {a b:ByteArray} (h:a=b):Ending.returned (.string a) = .returned (.string b):=by rw[h]
def toL (s:ByteArray):List UInt8:=s.data.toList
def ofL (l:List UInt8):ByteArray:=⟨l.toArray⟩
@[simp] theorem ze9 (l:List UInt8):toL (ofL l)=l:=by simp[toL,ofL]
@[simp] theorem zrt (s:ByteArray):ofL (toL s)=s:=by cases s;simp[toL,ofL]
theorem k8 (a b:List UInt8):ofL a++ofL b=ofL (a++b):=ByteArray.mk_append_mk a b
theorem GV (s:ByteArray):(toL s).length=s.size:=Array.length_toList
theorem QO (l:List UInt8):(ofL l).size=l.length:=by rw[←GV,ze9]
def join (sep:ByteArray) (xs:List ByteArray):ByteArray:=⟨(Lib.join (xs.map (·.data.toList)) sep.data.toList).toArray⟩
theorem join_one (sep x:ByteArray):join sep [x]=x:=by
 cases x;simp[join,Lib.join_one]
end Go.Proofs.YtlkjpfiancahiaaGreatDoor.Kit
end
section
namespace Go.Proofs.YtlkjpfiancahiaaGreatDoor.Kit
open Go.RowKit
def byteCells (l:List UInt8):Array Value:=(l.map fun c=>Value.int .u8 (c.toNat:Int)).toArray
theorem Np (w:World) (l:List UInt8) (T:TypeId) (fr:Nat×Nat) (n:Nat) (hn:n=w.heap.size):Lib.Bytes (w.alloc (.cells (byteCells l) T fr)) n 0 (ofL l):=by
 intro i h
 subst hn
 have h1:(w.alloc (.cells (byteCells l) T fr)).heap[w.heap.size]?=some (.cells (byteCells l) T fr):=by
  show (w.heap.push _)[w.heap.size]?=_
  rw[Array.getElem?_push,if_pos rfl]
 simp only[World.cell?,h1]
 show (byteCells l)[0+i]?=_
 have h2:i<l.length:=by rw[QO]at h;exact h
 rw[Nat.zero_add,byteCells,List.getElem?_toArray,List.getElem?_map,List.getElem?_eq_getElem h2]
 rfl
theorem G7 {P:Program} (w:World) (l:List UInt8) (src e dst:TypeId) (hs:P.underlying src=some (.slice e)) (he:P.underlying e=some (.int .u8)) (hd:P.underlying dst=some .string) (cs:Array Value) (hcs:cs=byteCells l) (fr:Nat×Nat) (m cap n:Nat) (hm:m=w.heap.size) (hn:n=l.length) :
  (convert src dst (.slice (some ⟨m,0,none⟩) n cap)).run P (w.alloc (.cells cs e fr)) = .ok (.string (ofL l)) (w.alloc (.cells cs e fr)):=by
 subst hcs hm hn
 have:=Lib.run_convert_whole (P:=P) (w.alloc (.cells (byteCells l) e fr)) src e dst hs he hd w.heap.size 0 (ofL l) (Np w l e fr _ rfl) cap
 rw[QO]at this
 exact this
end Go.Proofs.YtlkjpfiancahiaaGreatDoor.Kit
end
section
namespace Go.Proofs.YtlkjpfiancahiaaGreatDoor
open Go.RowKit
namespace QuoteWalk
open Kit QuotePlain
theorem MZ {c:UInt8} (h:good c=false):¬(32:Int)<=(c.toNat:Int)∨((32:Int)<=(c.toNat:Int)/\¬(c.toNat:Int)<=126)∨((32:Int)<=(c.toNat:Int)/\(c.toNat:Int)<=126/\((c.toNat:Int) != 34)=false) ∨
  ((32:Int)<=(c.toNat:Int)/\(c.toNat:Int)<=126/\((c.toNat:Int) != 34)=true/\((c.toNat:Int) != 92)=false):=by
 simp only[good,decide_eq_false_iff_not]at h
 simp only[bne_iff_ne,ne_eq,bne_eq_false_iff_eq]
 omega
theorem Hc {c:UInt8} (h:good c=true):(32:Int)<=(c.toNat:Int)/\(c.toNat:Int)<=126/\((c.toNat:Int) != 34)=true/\((c.toNat:Int) != 92)=true:=by
 simp only[good,decide_eq_true_eq]at h
 refine ⟨by omega,by omega,?_,?_⟩<;>(simp only[bne_iff_ne,ne_eq];omega)
theorem vr (c:UInt8) (w:World) :
  Calls Tryz.prog 176 #[.int .u8 c.toNat] w fun e w'=>e = .returned (.bool (good c))/\w=w':=by
 have hc:=c.toNat_lt
 cases hg:good c with
 | true =>
  obtain ⟨g1,g2,g3,g4⟩:=Hc hg
  clear hg
  go_enter Tryz.func176,Tryz.ntmps176
  go_wp2
  go_ret
  exact ⟨rfl,rfl⟩
 | false =>
  rcases MZ hg with h | ⟨h0,h⟩ | ⟨h0,h1,h2⟩ | ⟨h0,h1,h2,h3⟩
  all_goals clear hg
  ·go_enter Tryz.func176,Tryz.ntmps176
   go_wp2
   go_ret
   exact ⟨rfl,rfl⟩
  ·go_enter Tryz.func176,Tryz.ntmps176
   go_wp2
   go_ret
   exact ⟨rfl,rfl⟩
  ·go_enter Tryz.func176,Tryz.ntmps176
   go_wp2
   go_ret
   exact ⟨rfl,rfl⟩
  ·go_enter Tryz.func176,Tryz.ntmps176
   go_wp2
   go_ret
   exact ⟨rfl,rfl⟩
theorem Nl (c:UInt8) (w:World) (hg:good c=true) :
  Calls Tryz.prog 98 #[.int .u8 c.toNat] w fun e w'=>e = .returned (.string (ofL (qb c)))/\Below w.heap.size w w':=by
 have hc:=c.toNat_lt
 have hq:=Lib.hid (show qb c = [c] by rw[qb,if_pos hg])
 obtain ⟨g1,g2,g3,g4⟩:=Hc hg
 have hcv:=G7 (P:=Tryz.prog) w [c] 153 5 9 Tryz.underlying153 Tryz.underlying5 Tryz.underlying9 #[.int .u8 c.toNat] rfl (0,0) w.heap.size 1 1 rfl rfl
 clear hg
 go_enter Tryz.func98,Tryz.ntmps98
 go_wp2
 go_ret
 exact ⟨by rw[hq.out];rfl,(Below.refl _ _).alloc (Nat.le_refl _) _⟩
theorem zsd (n:Nat) (h:n<16) (w:World):(Instr.index 9 (.string ⟨#[48,49,50,51,52,53,54,55,56,57,97,98,99,100,101,102]⟩) (.int .u8 (n:Int))).run Tryz.prog w = .ok (.int .u8 ((Gw n).toNat:Int)) w:=by
 rcases (by omega:n=0∨n=1∨n=2∨n=3∨n=4∨n=5∨n=6∨n=7∨n=8∨n=9∨n=10∨n=11∨n=12∨n=13∨n=14∨n=15) with rfl | rfl | rfl | rfl | rfl | rfl | rfl | rfl | rfl | rfl | rfl | rfl | rfl | rfl | rfl | rfl
 all_goals kernel_rfl
theorem zkg (c:UInt8) (w:World):(Instr.index 9 (.string ⟨#[48,49,50,51,52,53,54,55,56,57,97,98,99,100,101,102]⟩) (.int .u8 ((c.toNat:Int) / 16))).run Tryz.prog w = .ok (.int .u8 ((Gw (c.toNat / 16)).toNat:Int)) w:=
 zsd (c.toNat / 16) (by have:=c.toNat_lt;omega) w
theorem zkh (c:UInt8) (w:World):(Instr.index 9 (.string ⟨#[48,49,50,51,52,53,54,55,56,57,97,98,99,100,101,102]⟩) (.int .u8 ((c.toNat:Int) % 16))).run Tryz.prog w = .ok (.int .u8 ((Gw (c.toNat % 16)).toNat:Int)) w:=
 zsd (c.toNat % 16) (by omega) w
theorem zlU (c:UInt8):IntKind.u8.wrap ((c.toNat:Int) / 16)=(c.toNat:Int) / 16:=by
 have:=c.toNat_lt
 exact IntWalk.u8_in _ (by omega)
theorem zmp (c:UInt8):IntKind.u8.wrap ((c.toNat:Int) % 16)=(c.toNat:Int) % 16:=by
 have:=c.toNat_lt
 exact IntWalk.u8_in _ (by omega)
theorem znb (c:UInt8):(c.toNat:Int).tmod 16=(c.toNat:Int) % 16:=Int.tmod_eq_emod_of_nonneg (by omega)
theorem x5 (c:UInt8) (w:World) (hg:good c=false) :
  Calls Tryz.prog 98 #[.int .u8 c.toNat] w fun e w'=>e = .returned (.string (ofL (qb c)))/\Below w.heap.size w w':=by
 have hc:=c.toNat_lt
 have hq:=Lib.hid (show qb c = [92,120,Gw (c.toNat / 16),Gw (c.toNat % 16)] by rw[qb,hg];rfl)
 have hb:=MZ hg
 have x1:=zkg c
 have x2:=zkh c
 have y1:=zlU c
 have y2:=zmp c
 have y3:=znb c
 have hcv:=fun w2:World=>G7 (P:=Tryz.prog) w2 [92,120,Gw (c.toNat / 16),Gw (c.toNat % 16)] 153 5 9 Tryz.underlying153 Tryz.underlying5 Tryz.underlying9 #[.int .u8 92,.int .u8 120,.int .u8 (Gw (c.toNat / 16)).toNat,.int .u8 (Gw (c.toNat % 16)).toNat] rfl (0,0) w2.heap.size 4 4 rfl rfl
 clear hg
 rcases hb with h | ⟨h0,h⟩ | ⟨h0,h1,h2⟩ | ⟨h0,h1,h2,h3⟩
 ·go_enter Tryz.func98,Tryz.ntmps98
  go_wp2
  go_still_tail 6,(by kernel_rfl)
  change wpList _ _ _ _ _ w.drew
  obtain ⟨w2,hw2,hsz⟩:∃ w2:World,Below w.heap.size w w2/\w2=w.drew:=⟨_,(Below.refl _ _).drew,rfl⟩
  rw[←hsz]
  clear hsz
  go_wp2
  go_ret
  exact ⟨by rw[hq.out];rfl,hw2.alloc hw2.size _⟩
 ·go_enter Tryz.func98,Tryz.ntmps98
  go_wp2
  go_still_tail 6,(by kernel_rfl)
  change wpList _ _ _ _ _ w.drew
  obtain ⟨w2,hw2,hsz⟩:∃ w2:World,Below w.heap.size w w2/\w2=w.drew:=⟨_,(Below.refl _ _).drew,rfl⟩
  rw[←hsz]
  clear hsz
  go_wp2
  go_ret
  exact ⟨by rw[hq.out];rfl,hw2.alloc hw2.size _⟩
 ·go_enter Tryz.func98,Tryz.ntmps98
  go_wp2
  go_still_tail 6,(by kernel_rfl)
  change wpList _ _ _ _ _ w.drew
  obtain ⟨w2,hw2,hsz⟩:∃ w2:World,Below w.heap.size w w2/\w2=w.drew:=⟨_,(Below.refl _ _).drew,rfl⟩
  rw[←hsz]
  clear hsz
  go_wp2
  go_ret
  exact ⟨by rw[hq.out];rfl,hw2.alloc hw2.size _⟩
 ·go_enter Tryz.func98,Tryz.ntmps98
  go_wp2
  go_still_tail 6,(by kernel_rfl)
  change wpList _ _ _ _ _ w.drew
  obtain ⟨w2,hw2,hsz⟩:∃ w2:World,Below w.heap.size w w2/\w2=w.drew:=⟨_,(Below.refl _ _).drew,rfl⟩
  rw[←hsz]
  clear hsz
  go_wp2
  go_ret
  exact ⟨by rw[hq.out];rfl,hw2.alloc hw2.size _⟩
theorem NQ (c:UInt8) (w:World) :
  Calls Tryz.prog 98 #[.int .u8 c.toNat] w fun e w'=>e = .returned (.string (ofL (qb c)))/\Below w.heap.size w w':=by
 cases h:good c with
 | true=>exact Nl c w h
 | false=>exact x5 c w h
end QuoteWalk
end Go.Proofs.YtlkjpfiancahiaaGreatDoor
end
section
namespace Go.Proofs
open Go.Shelf
def Tryz.zlays166_ren:Go.Shelf.Ren:=⟨fun | 166=>151 | 240=>177 | 276=>208 | n=>n,fun | 0=>0 | 3=>3 | 4=>4 | 9=>9 | 20=>20 | 37=>153 | 70=>197 | 72=>199 | 75=>202 | 164=>249 | 80=>205 | 5=>5 | n=>n,fun | n=>n⟩
theorem Tryz.zlays166:Go.Proofs.Lays.n166 Tryz.prog Tryz.zlays166_ren:={
 mixed:=by kernel_rfl
 f166:=Tryz.func151.trans (congrArg some (by kernel_rfl))
 f240:=Tryz.func177.trans (congrArg some (by kernel_rfl))
 f276:=Tryz.func208.trans (congrArg some (by kernel_rfl))
 t0:=Tryz.underlying0
 a0:=Tryz.isAgg0
 z0:=Tryz.sizeOf0
 v0:=Tryz.zeroValue0
 t3:=Tryz.underlying3
 a3:=Tryz.isAgg3
 z3:=Tryz.sizeOf3
 v3:=Tryz.zeroValue3
 t4:=Tryz.underlying4
 a4:=Tryz.isAgg4
 z4:=Tryz.sizeOf4
 v4:=Tryz.zeroValue4
 t9:=Tryz.underlying9
 a9:=Tryz.isAgg9
 z9:=Tryz.sizeOf9
 v9:=Tryz.zeroValue9
 t20:=Tryz.underlying20
 a20:=Tryz.isAgg20
 z20:=Tryz.sizeOf20
 v20:=Tryz.zeroValue20
 t37:=Tryz.underlying153
 a37:=Tryz.isAgg153
 z37:=Tryz.sizeOf153
 v37:=Tryz.zeroValue153
 t70:=Tryz.underlying197
 a70:=Tryz.isAgg197
 z70:=Tryz.sizeOf197
 v70:=Tryz.zeroValue197
 t72:=Tryz.underlying199
 a72:=Tryz.isAgg199
 z72:=Tryz.sizeOf199
 v72:=Tryz.zeroValue199
 t75:=Tryz.underlying202
 a75:=Tryz.isAgg202
 z75:=Tryz.sizeOf202
 v75:=Tryz.zeroValue202
 t164:=Tryz.underlying249
 a164:=Tryz.isAgg249
 z164:=Tryz.sizeOf249
 v164:=Tryz.zeroValue249 }
theorem Tryz.zBuilder_Extra_166:Builder.Extra Tryz.prog Tryz.zlays166_ren:={
 sizeBuilder:=by kernel_rfl
 liesBuilder:=by kernel_rfl
 t5:=Tryz.underlying5
 a5:=Tryz.isAgg5
 z5:=Tryz.sizeOf5
 v5:=Tryz.zeroValue5
 infoByte:=by kernel_rfl
 cellsByte:=by kernel_rfl
 sizeByte:=by kernel_rfl
 neB5:=by decide }
def Tryz.zlays167_ren:Go.Shelf.Ren:=⟨fun | 167=>175 | 240=>177 | 276=>208 | n=>n,fun | 0=>0 | 4=>4 | 5=>5 | 9=>9 | 20=>20 | 37=>153 | 70=>197 | 72=>199 | 75=>202 | 164=>249 | 80=>205 | n=>n,fun | n=>n⟩
theorem Tryz.zlays167:Go.Proofs.Lays.n167 Tryz.prog Tryz.zlays167_ren:={
 mixed:=by kernel_rfl
 f167:=Tryz.func175.trans (congrArg some (by kernel_rfl))
 f240:=Tryz.func177.trans (congrArg some (by kernel_rfl))
 f276:=Tryz.func208.trans (congrArg some (by kernel_rfl))
 t0:=Tryz.underlying0
 a0:=Tryz.isAgg0
 z0:=Tryz.sizeOf0
 v0:=Tryz.zeroValue0
 t4:=Tryz.underlying4
 a4:=Tryz.isAgg4
 z4:=Tryz.sizeOf4
 v4:=Tryz.zeroValue4
 t5:=Tryz.underlying5
 a5:=Tryz.isAgg5
 z5:=Tryz.sizeOf5
 v5:=Tryz.zeroValue5
 t9:=Tryz.underlying9
 a9:=Tryz.isAgg9
 z9:=Tryz.sizeOf9
 v9:=Tryz.zeroValue9
 t20:=Tryz.underlying20
 a20:=Tryz.isAgg20
 z20:=Tryz.sizeOf20
 v20:=Tryz.zeroValue20
 t37:=Tryz.underlying153
 a37:=Tryz.isAgg153
 z37:=Tryz.sizeOf153
 v37:=Tryz.zeroValue153
 t70:=Tryz.underlying197
 a70:=Tryz.isAgg197
 z70:=Tryz.sizeOf197
 v70:=Tryz.zeroValue197
 t72:=Tryz.underlying199
 a72:=Tryz.isAgg199
 z72:=Tryz.sizeOf199
 v72:=Tryz.zeroValue199
 t75:=Tryz.underlying202
 a75:=Tryz.isAgg202
 z75:=Tryz.sizeOf202
 v75:=Tryz.zeroValue202
 t164:=Tryz.underlying249
 a164:=Tryz.isAgg249
 z164:=Tryz.sizeOf249
 v164:=Tryz.zeroValue249 }
theorem Tryz.zBuilder_Extra_167:Builder.Extra Tryz.prog Tryz.zlays167_ren:={
 sizeBuilder:=by kernel_rfl
 liesBuilder:=by kernel_rfl
 t5:=Tryz.underlying5
 a5:=Tryz.isAgg5
 z5:=Tryz.sizeOf5
 v5:=Tryz.zeroValue5
 infoByte:=by kernel_rfl
 cellsByte:=by kernel_rfl
 sizeByte:=by kernel_rfl
 neB5:=by decide }
open Go.RowKit in
theorem Tryz.zBuilder_WriteByte (B b:Nat) (bs:List Value) (c:Int) (w:World) (h:Lib.IsBuilder 199 5 B b bs w) (hlen:bs.length+1<=140737488355328) (hBw:B<=w.heap.size) :
  Calls Tryz.prog 175 #[.pointer (some ⟨b,0,none⟩),.int .u8 c] w fun e w'=>e = .returned .nilIface/\(Lib.BuilderAt 199 5 B b (.pointer (some ⟨b,0,none⟩)) (bs++[.int .u8 c]) w'/\Below B w w'):=Any.Builder_WriteByte Tryz.zlays167 Tryz.zBuilder_Extra_167 B b bs c w h hlen hBw
open Go.RowKit in
theorem Tryz.zBuilder_WriteString (B b:Nat) (bs:List Value) (s:ByteArray) (w:World) (h:Lib.IsBuilder 199 5 B b bs w) (hlen:bs.length+s.size<=140737488355328) (hBw:B<=w.heap.size) :
  Calls Tryz.prog 151 #[.pointer (some ⟨b,0,none⟩),.string s] w fun e w'=>e = .returned (.tuple #[.int .i64 s.size,.nilIface])/\(Lib.BuilderAt 199 5 B b (.pointer (some ⟨b,0,none⟩)) (bs++Lib.strCells s) w'/\Below B w w'):=Any.Builder_WriteString Tryz.zlays166 Tryz.zBuilder_Extra_166 B b bs s w h hlen hBw
end Go.Proofs
end
section
namespace Go.Proofs.YtlkjpfiancahiaaGreatDoor
open Go.RowKit
namespace QuoteWalk
open Kit QuotePlain
def pre (s:ByteArray) (k:Nat):Bs:=34 :: mid ((toL s).take k)
theorem ux (s:ByteArray):pre s 0 = [34]:=by simp[pre,mid]
theorem vV (s:ByteArray) (k:Nat) (h:k<s.size) {c:UInt8} (hc:s[k]=c):pre s (k+1)=pre s k++qb c:=by
 have h':k<(toL s).length:=by rw[GV];exact h
 have:(toL s)[k]=c:=hc
 rw[pre,pre,List.take_succ_eq_append_getElem h',this,mid,mid,List.flatMap_append]
 simp
theorem zdv (s:ByteArray) (k:Nat) (h:s.size<=k):pre s k++[34]=qc (toL s):=by
 rw[pre,List.take_of_length_le (by rw[GV];exact h)];rfl
theorem zkG (c:UInt8):(qb c).length<=4:=by unfold qb;split<;>simp
theorem mid_len (l:Bs):(mid l).length<=4*l.length:=by
 induction l with
 | nil=>simp[mid]
 | cons c l ih =>
  have:=zkG c
  simp only[mid,List.flatMap_cons,List.length_append,List.length_cons]at ih ⊢
  omega
theorem zcD (s:ByteArray) (k:Nat):(pre s k).length<=1+4*k:=by
 have h1:=mid_len ((toL s).take k)
 have h2:((toL s).take k).length<=k:=List.length_take_le _ _
 simp only[pre,List.length_cons];omega
theorem refQuote_walk (s:ByteArray) (w:World) (hs:s.size<=1099511627776) :
  Calls Tryz.prog 52 #[.string s] w fun e w'=>e = .returned (.string (ofL (qc (toL s))))/\Below w.heap.size w w':=by
 go_enter Tryz.func52,Tryz.ntmps52
 go_wp2
 go_loopw [3,4] (fun o i wr=>∃ k:Nat,k<=s.size/\i = .int .i64 k/\o = .string (ofL (pre s k))/\Below w.heap.size w wr) (fun _ i _=>s.size-(intOf i).toNat)
 case atStart=>exact ⟨0,by omega,rfl,by rw[ux];rfl,Below.refl _ _⟩
 case round =>
  obtain ⟨k,hk,rfl,rfl,hB⟩:=hrel
  have hpl:=zcD s k
  have hps:(ofL (pre s k)).size<=1+4*k:=by rw[QO];exact hpl
  by_cases hlt:k<s.size
  ·obtain ⟨c,hc⟩:∃ c,s[k]=c:=⟨_,rfl⟩
   have hsn:=Lib.hid (vV s k hlt hc)
   have hql:=zkG c
   have hqs:(ofL (qb c)).size<=4:=by rw[QO];exact hql
   generalize hp:ofL (pre s k)=p at *
   have hp':=Lib.hid hp
   clear hp
   go_wp2_with fail
   refine (NQ c _).mono ?_
   rintro e w1 ⟨rfl,hb1⟩
   generalize hq:ofL (qb c)=q at *
   have hq':=Lib.hid hq
   clear hq
   go_wp2
   go_roundw
   case rel=>exact ⟨k+1,by omega,by go_num,by rw[hsn.out,←k8,hp'.out,hq'.out],hB.trans (hb1.mono hB.size)⟩
   case measure=>simp[intOf];omega
  ·have hfin:=Lib.hid (zdv s k (by omega))
   generalize hp:ofL (pre s k)=p at *
   have hp':=Lib.hid hp
   clear hp
   go_wp2
   go_ret
   exact ⟨Ha (by rw[←hp'.out,←hfin.out,←k8];rfl),hB⟩
def Bld (B:Nat) (l:Bs) (w:World):Prop:=Lib.BuilderAt 199 5 B B (.pointer (some ⟨B,0,none⟩)) (Lib.byteCells l) w
theorem Bld.alloc {B:Nat} {l:Bs} {w:World} (h:Bld B l w) (o:Obj):Bld B l (w.alloc o):=by
 obtain ⟨h1,v,h2,h3,h4⟩:=h
 refine ⟨h1,v,?_,h3.alloc o,h4⟩
 rw[Lib.alloc_old _ _ _ (Array.getElem?_eq_some_iff.1 h2).1];exact h2
theorem Bld.drew {B:Nat} {l:Bs} {w:World} (h:Bld B l w):Bld B l w.drew:=h
theorem xl (B:Nat) (l:Bs) (c:UInt8) (w:World) (h:Bld B l w) (hl:l.length<140737488355328) (hB:B<=w.heap.size) :
  Calls Tryz.prog 175 #[.pointer (some ⟨B,0,none⟩),.int .u8 (c.toNat:Int)] w fun e w'=>e = .returned .nilIface/\Bld B (l++[c]) w'/\Below B w w':=by
 refine (Tryz.zBuilder_WriteByte B B (Lib.byteCells l) c.toNat w (.inr h) (by rw[Lib.byteCells_length];omega) hB).mono ?_
 rintro e w' ⟨h1,h2,h3⟩
 exact ⟨h1,by rw[Bld,Lib.byteCells_append];exact h2,h3⟩
theorem zbM (w:World) (c:UInt8) :
  Calls Tryz.prog 175 #[.pointer (some ⟨w.heap.size,0,none⟩),.int .u8 (c.toNat:Int)] (w.alloc (.cells #[.pointer none,.slice none 0 0] 199 (0,0))) fun e w'=>e = .returned .nilIface/\Bld w.heap.size [c] w'/\Below w.heap.size w w':=by
 refine (Tryz.zBuilder_WriteByte w.heap.size w.heap.size [] c.toNat _ (Lib.fresh_isBuilder _ _ w) (by decide) (by simp)).mono ?_
 rintro e w' ⟨h1,h2,h3⟩
 exact ⟨h1,h2,((Below.refl _ _).alloc (Nat.le_refl _) _).trans h3⟩
theorem xG (B:Nat) (l:Bs) (x:ByteArray) (w:World) (h:Bld B l w) (hl:l.length+x.size<=140737488355328) (hB:B<=w.heap.size) :
  Calls Tryz.prog 151 #[.pointer (some ⟨B,0,none⟩),.string x] w fun e w'=>e = .returned (.tuple #[.int .i64 x.size,.nilIface])/\Bld B (l++toL x) w'/\Below B w w':=by
 refine (Tryz.zBuilder_WriteString B B (Lib.byteCells l) x w (.inr h) (by rw[Lib.byteCells_length];omega) hB).mono ?_
 rintro e w' ⟨h1,h2,h3⟩
 exact ⟨h1,by rw[Bld,Lib.byteCells_append];exact h2,h3⟩
theorem zc6 (B:Nat) (l:Bs) (w:World) (h:Bld B l w) (hB:B<=w.heap.size) :
  Calls Tryz.prog 152 #[.pointer (some ⟨B,0,none⟩)] w fun e w'=>e = .returned (.string (ofL l))/\Below B w w':=
 Tryz.Builder_String_any B B l w (.inr h) hB
theorem zov (c:UInt8):bits BinOp.and IntKind.u8 (c.toNat:Int) 15=(c.toNat:Int) % 16:=by
 have:=zf5 (p:=fun c=>decide (bits BinOp.and IntKind.u8 (c.toNat:Int) 15=(c.toNat:Int) % 16)) (by decide +kernel) c
 exact of_decide_eq_true this
theorem quote_walk (s:ByteArray) (w:World) (hs:s.size<=1099511627776) :
  Calls Tryz.prog 148 #[.string s] w fun e w'=>e = .returned (.string (ofL (qc (toL s))))/\Below w.heap.size w w':=by
 go_enter Tryz.func148,Tryz.ntmps148
 go_wp2_with fail
 refine (zbM w 34).mono ?_
 rintro e w1 ⟨rfl,hI1,hB1⟩
 go_wp2_with fail
 go_loopw [9] (fun i wr=>∃ k:Nat,k<=s.size/\i = .int .i64 k/\Bld w.heap.size (pre s k) wr/\Below w.heap.size w wr) (fun i _=>s.size-(intOf i).toNat)
 case atStart=>exact ⟨0,by omega,rfl,by rw[ux];exact hI1,hB1⟩
 case round =>
  obtain ⟨k,hk,rfl,hI,hB⟩:=hrel
  clear hI1 hB1
  have hpl:=zcD s k
  by_cases hlt:k<s.size
  ·obtain ⟨c,hc⟩:∃ c,s[k]=c:=⟨_,rfl⟩
   have hsn:=Lib.hid (vV s k hlt hc)
   go_wp2_with fail
   refine (vr c _).mono ?_
   rintro e w' ⟨rfl,rfl⟩
   cases hg:good c with
   | true =>
    have hq:=Lib.hid (show qb c = [c] by rw[qb,if_pos hg])
    clear hg
    go_wp2_with fail
    refine (xl w.heap.size (pre s k) c _ hI (by omega) hB.size).mono ?_
    rintro e w2 ⟨rfl,hI2,hb2⟩
    go_wp2
    go_roundw
    case rel=>exact ⟨k+1,by omega,by go_num,by rw[hsn.out,hq.out];exact hI2,hB.trans hb2⟩
    case measure=>simp[intOf];omega
   | false =>
    have hq:=Lib.hid (show qb c = [92,120,Gw (c.toNat / 16),Gw (c.toNat % 16)] by rw[qb,hg];rfl)
    clear hg
    have x1:=zkg c
    have x2:=zkh c
    have x3:=zov c
    have hcv:=fun w2:World=>G7 (P:=Tryz.prog) w2 [92,120,Gw (c.toNat / 16),Gw (c.toNat % 16)] 153 5 9 Tryz.underlying153 Tryz.underlying5 Tryz.underlying9 #[.int .u8 92,.int .u8 120,.int .u8 (Gw (c.toNat / 16)).toNat,.int .u8 (Gw (c.toNat % 16)).toNat] rfl (0,0) w2.heap.size 4 4 rfl rfl
    go_wp2_with fail
    go_still_tail 6,(by kernel_rfl)
    change wpList _ _ _ _ _ wr.drew
    obtain ⟨w2,hw2,hI2,hsz⟩:∃ w2:World,Below w.heap.size w w2/\Bld w.heap.size (pre s k) w2/\w2=wr.drew:=⟨_,hB.drew,hI.drew,rfl⟩
    rw[←hsz]
    clear hsz hI hB
    go_wp2_with fail
    refine (xG w.heap.size (pre s k) (ofL [92,120,Gw (c.toNat / 16),Gw (c.toNat % 16)]) _ (hI2.alloc _) (by rw[QO];show _+4<=_;omega) (by have:=hw2.size;simp;omega)).mono ?_
    rintro e w3 ⟨rfl,hI3,hb3⟩
    rw[ze9]at hI3
    have hB3:=(hw2.alloc hw2.size _).trans hb3
    clear hb3 hcv x1 x2 x3 hI2
    go_wp2
    go_roundw
    case rel=>exact ⟨k+1,by omega,by go_num,by rw[hsn.out,hq.out];exact hI3,hB3⟩
    case measure=>simp[intOf];omega
  ·have hfin:=Lib.hid (zdv s k (by omega))
   go_wp2_with fail
   refine (xl w.heap.size (pre s k) 34 _ hI (by omega) hB.size).mono ?_
   rintro e w2 ⟨rfl,hI2,hb2⟩
   go_wp2_with fail
   refine (zc6 w.heap.size _ _ hI2 (hB.trans hb2).size).mono ?_
   rintro e w3 ⟨rfl,hb3⟩
   go_wp2
   go_ret
   exact ⟨Ha (by rw[hfin.out]),(hB.trans hb2).trans hb3⟩
end QuoteWalk
end Go.Proofs.YtlkjpfiancahiaaGreatDoor
end
namespace Go.Proofs.YtlkjpfiancahiaaGreatDoor.Vcg
section
open Go.RowKit
def phr:List (List UInt8):=[[],[99,97,110,110,111,116,32,99,114,101,97,116,101,32,100,105,114,101,99,116,111,114,121,32,65,58,32,69],[99,97,110,110,111,116,32,114,101,109,111,118,101,32,65,58,32,69],[114,101,102,117,115,105,110,103,32,116,111,32,114,101,109,111,118,101,32,34,46,34,32,111,114,32,34,46,46,34,32,100,105,114,101,99,116,111,114,121,58,32,115,107,105,112,112,105,110,103,32,65],[105,116,32,105,115,32,100,97,110,103,101,114,111,117,115,32,116,111,32,111,112,101,114,97,116,101,32,114,101,99,117,114,115,105,118,101,108,121,32,111,110,32,65],[102,97,105,108,101,100,32,116,111,32,97,99,99,101,115,115,32,65,58,32,69],[65,58,32,104,97,114,100,32,108,105,110,107,32,110,111,116,32,97,108,108,111,119,101,100,32,102,111,114,32,100,105,114,101,99,116,111,114,121],[102,97,105,108,101,100,32,116,111,32,99,114,101,97,116,101,32,104,97,114,100,32,108,105,110,107,32,66,58,32,69],[102,97,105,108,101,100,32,116,111,32,99,114,101,97,116,101,32,115,121,109,98,111,108,105,99,32,108,105,110,107,32,66,58,32,69],[65,32,97,110,100,32,66,32,97,114,101,32,116,104,101,32,115,97,109,101,32,102,105,108,101],[116,97,114,103,101,116,32,65,32,105,115,32,110,111,116,32,97,32,100,105,114,101,99,116,111,114,121],[99,97,110,110,111,116,32,115,116,97,116,32,65,58,32,69],[99,97,110,110,111,116,32,111,118,101,114,119,114,105,116,101,32,110,111,110,45,100,105,114,101,99,116,111,114,121,32,66,32,119,105,116,104,32,100,105,114,101,99,116,111,114,121,32,65],[99,97,110,110,111,116,32,111,118,101,114,119,114,105,116,101,32,100,105,114,101,99,116,111,114,121,32,66,32,119,105,116,104,32,110,111,110,45,100,105,114,101,99,116,111,114,121,32,65],[99,97,110,110,111,116,32,109,111,118,101,32,65,32,116,111,32,97,32,115,117,98,100,105,114,101,99,116,111,114,121,32,111,102,32,105,116,115,101,108,102,44,32,66],[99,97,110,110,111,116,32,109,111,118,101,32,65,32,116,111,32,66,58,32,69],[45,114,32,110,111,116,32,115,112,101,99,105,102,105,101,100,59,32,111,109,105,116,116,105,110,103,32,100,105,114,101,99,116,111,114,121,32,65],[99,97,110,110,111,116,32,99,114,101,97,116,101,32,114,101,103,117,108,97,114,32,102,105,108,101,32,66,58,32,69],[99,97,110,110,111,116,32,99,114,101,97,116,101,32,115,121,109,98,111,108,105,99,32,108,105,110,107,32,66,58,32,69],[99,97,110,110,111,116,32,99,111,112,121,32,97,32,100,105,114,101,99,116,111,114,121,44,32,65,44,32,105,110,116,111,32,105,116,115,101,108,102,44,32,66],[110,111,116,32,119,114,105,116,105,110,103,32,116,104,114,111,117,103,104,32,100,97,110,103,108,105,110,103,32,115,121,109,108,105,110,107,32,66],[101,114,114,111,114,32,119,114,105,116,105,110,103,32,66,58,32,69],[99,97,110,110,111,116,32,99,114,101,97,116,101,32,100,105,114,101,99,116,111,114,121,32,66,58,32,69]]
def zsf:List (List UInt8):=[[83,117,99,99,101,115,115],[78,111,32,115,117,99,104,32,102,105,108,101,32,111,114,32,100,105,114,101,99,116,111,114,121],[70,105,108,101,32,101,120,105,115,116,115],[78,111,116,32,97,32,100,105,114,101,99,116,111,114,121],[73,115,32,97,32,100,105,114,101,99,116,111,114,121],[68,105,114,101,99,116,111,114,121,32,110,111,116,32,101,109,112,116,121],[84,111,111,32,109,97,110,121,32,108,101,118,101,108,115,32,111,102,32,115,121,109,98,111,108,105,99,32,108,105,110,107,115],[70,105,108,101,32,110,97,109,101,32,116,111,111,32,108,111,110,103],[78,111,32,115,112,97,99,101,32,108,101,102,116,32,111,110,32,100,101,118,105,99,101],[73,110,118,97,108,105,100,32,97,114,103,117,109,101,110,116],[68,101,118,105,99,101,32,111,114,32,114,101,115,111,117,114,99,101,32,98,117,115,121],[79,112,101,114,97,116,105,111,110,32,110,111,116,32,112,101,114,109,105,116,116,101,100],[77,97,108,102,111,114,109,101,100,32,116,101,120,116],[78,111,116,32,105,110,32,116,104,101,32,115,116,97,115,104]]
def zpF:List Value:=[.string ⟨#[]⟩,.string ⟨#[]⟩,.int .i64 0,.string ⟨#[109,107,100,105,114]⟩,.string ⟨#[112]⟩,.int .i64 1,.string ⟨#[114,109]⟩,.string ⟨#[82,100,102,114]⟩,.int .i64 1,.string ⟨#[108,110]⟩,.string ⟨#[84,102,110,115]⟩,.int .i64 1,.string ⟨#[109,118]⟩,.string ⟨#[84,102,110]⟩,.int .i64 2,.string ⟨#[99,112]⟩,.string ⟨#[80,82,84,102,110,114]⟩,.int .i64 2]
def G2:zo:=fun g=>if g=1 then some (phr.map C.str) else if g=0 then some (zpF.map zy) else if g=2 then some (zsf.map C.str) else none
theorem zpS:G2 1=some [.str [],.str [99,97,110,110,111,116,32,99,114,101,97,116,101,32,100,105,114,101,99,116,111,114,121,32,65,58,32,69],.str [99,97,110,110,111,116,32,114,101,109,111,118,101,32,65,58,32,69],.str [114,101,102,117,115,105,110,103,32,116,111,32,114,101,109,111,118,101,32,34,46,34,32,111,114,32,34,46,46,34,32,100,105,114,101,99,116,111,114,121,58,32,115,107,105,112,112,105,110,103,32,65],.str [105,116,32,105,115,32,100,97,110,103,101,114,111,117,115,32,116,111,32,111,112,101,114,97,116,101,32,114,101,99,117,114,115,105,118,101,108,121,32,111,110,32,65],.str [102,97,105,108,101,100,32,116,111,32,97,99,99,101,115,115,32,65,58,32,69],.str [65,58,32,104,97,114,100,32,108,105,110,107,32,110,111,116,32,97,108,108,111,119,101,100,32,102,111,114,32,100,105,114,101,99,116,111,114,121],.str [102,97,105,108,101,100,32,116,111,32,99,114,101,97,116,101,32,104,97,114,100,32,108,105,110,107,32,66,58,32,69],.str [102,97,105,108,101,100,32,116,111,32,99,114,101,97,116,101,32,115,121,109,98,111,108,105,99,32,108,105,110,107,32,66,58,32,69],.str [65,32,97,110,100,32,66,32,97,114,101,32,116,104,101,32,115,97,109,101,32,102,105,108,101],.str [116,97,114,103,101,116,32,65,32,105,115,32,110,111,116,32,97,32,100,105,114,101,99,116,111,114,121],.str [99,97,110,110,111,116,32,115,116,97,116,32,65,58,32,69],.str [99,97,110,110,111,116,32,111,118,101,114,119,114,105,116,101,32,110,111,110,45,100,105,114,101,99,116,111,114,121,32,66,32,119,105,116,104,32,100,105,114,101,99,116,111,114,121,32,65],.str [99,97,110,110,111,116,32,111,118,101,114,119,114,105,116,101,32,100,105,114,101,99,116,111,114,121,32,66,32,119,105,116,104,32,110,111,110,45,100,105,114,101,99,116,111,114,121,32,65],.str [99,97,110,110,111,116,32,109,111,118,101,32,65,32,116,111,32,97,32,115,117,98,100,105,114,101,99,116,111,114,121,32,111,102,32,105,116,115,101,108,102,44,32,66],.str [99,97,110,110,111,116,32,109,111,118,101,32,65,32,116,111,32,66,58,32,69],.str [45,114,32,110,111,116,32,115,112,101,99,105,102,105,101,100,59,32,111,109,105,116,116,105,110,103,32,100,105,114,101,99,116,111,114,121,32,65],.str [99,97,110,110,111,116,32,99,114,101,97,116,101,32,114,101,103,117,108,97,114,32,102,105,108,101,32,66,58,32,69],.str [99,97,110,110,111,116,32,99,114,101,97,116,101,32,115,121,109,98,111,108,105,99,32,108,105,110,107,32,66,58,32,69],.str [99,97,110,110,111,116,32,99,111,112,121,32,97,32,100,105,114,101,99,116,111,114,121,44,32,65,44,32,105,110,116,111,32,105,116,115,101,108,102,44,32,66],.str [110,111,116,32,119,114,105,116,105,110,103,32,116,104,114,111,117,103,104,32,100,97,110,103,108,105,110,103,32,115,121,109,108,105,110,107,32,66],.str [101,114,114,111,114,32,119,114,105,116,105,110,103,32,66,58,32,69],.str [99,97,110,110,111,116,32,99,114,101,97,116,101,32,100,105,114,101,99,116,111,114,121,32,66,58,32,69]]:=rfl
theorem zii:G2 0=some [.str [],.str [],.sc (.int .i64 0),.str [109,107,100,105,114],.str [112],.sc (.int .i64 1),.str [114,109],.str [82,100,102,114],.sc (.int .i64 1),.str [108,110],.str [84,102,110,115],.sc (.int .i64 1),.str [109,118],.str [84,102,110],.sc (.int .i64 2),.str [99,112],.str [80,82,84,102,110,114],.sc (.int .i64 2)]:=rfl
theorem zk3:G2 2=some [.str [83,117,99,99,101,115,115],.str [78,111,32,115,117,99,104,32,102,105,108,101,32,111,114,32,100,105,114,101,99,116,111,114,121],.str [70,105,108,101,32,101,120,105,115,116,115],.str [78,111,116,32,97,32,100,105,114,101,99,116,111,114,121],.str [73,115,32,97,32,100,105,114,101,99,116,111,114,121],.str [68,105,114,101,99,116,111,114,121,32,110,111,116,32,101,109,112,116,121],.str [84,111,111,32,109,97,110,121,32,108,101,118,101,108,115,32,111,102,32,115,121,109,98,111,108,105,99,32,108,105,110,107,115],.str [70,105,108,101,32,110,97,109,101,32,116,111,111,32,108,111,110,103],.str [78,111,32,115,112,97,99,101,32,108,101,102,116,32,111,110,32,100,101,118,105,99,101],.str [73,110,118,97,108,105,100,32,97,114,103,117,109,101,110,116],.str [68,101,118,105,99,101,32,111,114,32,114,101,115,111,117,114,99,101,32,98,117,115,121],.str [79,112,101,114,97,116,105,111,110,32,110,111,116,32,112,101,114,109,105,116,116,101,100],.str [77,97,108,102,111,114,109,101,100,32,116,101,120,116],.str [78,111,116,32,105,110,32,116,104,101,32,115,116,97,115,104]]:=rfl
attribute [push_cast] zpS zii zk3
def Je (k:Int):List UInt8:=if k=1 then [109,107,100,105,114] else if k=2 then [114,109] else if k=3 then [108,110] else if k=4 then [109,118] else if k=5 then [99,112] else []
def qm (k:Int):List UInt8:=if k=1 then [99,97,110,110,111,116,32,99,114,101,97,116,101,32,100,105,114,101,99,116,111,114,121,32,65,58,32,69] else if k=2 then [99,97,110,110,111,116,32,114,101,109,111,118,101,32,65,58,32,69] else if k=3 then [114,101,102,117,115,105,110,103,32,116,111,32,114,101,109,111,118,101,32,34,46,34,32,111,114,32,34,46,46,34,32,100,105,114,101,99,116,111,114,121,58,32,115,107,105,112,112,105,110,103,32,65] else if k=4 then [105,116,32,105,115,32,100,97,110,103,101,114,111,117,115,32,116,111,32,111,112,101,114,97,116,101,32,114,101,99,117,114,115,105,118,101,108,121,32,111,110,32,65] else if k=5 then [102,97,105,108,101,100,32,116,111,32,97,99,99,101,115,115,32,65,58,32,69] else if k=6 then [65,58,32,104,97,114,100,32,108,105,110,107,32,110,111,116,32,97,108,108,111,119,101,100,32,102,111,114,32,100,105,114,101,99,116,111,114,121] else if k=7 then [102,97,105,108,101,100,32,116,111,32,99,114,101,97,116,101,32,104,97,114,100,32,108,105,110,107,32,66,58,32,69] else if k=8 then [102,97,105,108,101,100,32,116,111,32,99,114,101,97,116,101,32,115,121,109,98,111,108,105,99,32,108,105,110,107,32,66,58,32,69] else if k=9 then [65,32,97,110,100,32,66,32,97,114,101,32,116,104,101,32,115,97,109,101,32,102,105,108,101] else if k=10 then [116,97,114,103,101,116,32,65,32,105,115,32,110,111,116,32,97,32,100,105,114,101,99,116,111,114,121] else if k=11 then [99,97,110,110,111,116,32,115,116,97,116,32,65,58,32,69] else if k=12 then [99,97,110,110,111,116,32,111,118,101,114,119,114,105,116,101,32,110,111,110,45,100,105,114,101,99,116,111,114,121,32,66,32,119,105,116,104,32,100,105,114,101,99,116,111,114,121,32,65] else if k=13 then [99,97,110,110,111,116,32,111,118,101,114,119,114,105,116,101,32,100,105,114,101,99,116,111,114,121,32,66,32,119,105,116,104,32,110,111,110,45,100,105,114,101,99,116,111,114,121,32,65] else if k=14 then [99,97,110,110,111,116,32,109,111,118,101,32,65,32,116,111,32,97,32,115,117,98,100,105,114,101,99,116,111,114,121,32,111,102,32,105,116,115,101,108,102,44,32,66] else if k=15 then [99,97,110,110,111,116,32,109,111,118,101,32,65,32,116,111,32,66,58,32,69] else if k=16 then [45,114,32,110,111,116,32,115,112,101,99,105,102,105,101,100,59,32,111,109,105,116,116,105,110,103,32,100,105,114,101,99,116,111,114,121,32,65] else if k=17 then [99,97,110,110,111,116,32,99,114,101,97,116,101,32,114,101,103,117,108,97,114,32,102,105,108,101,32,66,58,32,69] else if k=18 then [99,97,110,110,111,116,32,99,114,101,97,116,101,32,115,121,109,98,111,108,105,99,32,108,105,110,107,32,66,58,32,69] else if k=19 then [99,97,110,110,111,116,32,99,111,112,121,32,97,32,100,105,114,101,99,116,111,114,121,44,32,65,44,32,105,110,116,111,32,105,116,115,101,108,102,44,32,66] else if k=20 then [110,111,116,32,119,114,105,116,105,110,103,32,116,104,114,111,117,103,104,32,100,97,110,103,108,105,110,103,32,115,121,109,108,105,110,107,32,66] else if k=21 then [101,114,114,111,114,32,119,114,105,116,105,110,103,32,66,58,32,69] else if k=22 then [99,97,110,110,111,116,32,99,114,101,97,116,101,32,100,105,114,101,99,116,111,114,121,32,66,58,32,69] else []
def VV (k:Int):List UInt8:=if k=0 then [83,117,99,99,101,115,115] else if k=1 then [78,111,32,115,117,99,104,32,102,105,108,101,32,111,114,32,100,105,114,101,99,116,111,114,121] else if k=2 then [70,105,108,101,32,101,120,105,115,116,115] else if k=3 then [78,111,116,32,97,32,100,105,114,101,99,116,111,114,121] else if k=4 then [73,115,32,97,32,100,105,114,101,99,116,111,114,121] else if k=5 then [68,105,114,101,99,116,111,114,121,32,110,111,116,32,101,109,112,116,121] else if k=6 then [84,111,111,32,109,97,110,121,32,108,101,118,101,108,115,32,111,102,32,115,121,109,98,111,108,105,99,32,108,105,110,107,115] else if k=7 then [70,105,108,101,32,110,97,109,101,32,116,111,111,32,108,111,110,103] else if k=8 then [78,111,32,115,112,97,99,101,32,108,101,102,116,32,111,110,32,100,101,118,105,99,101] else if k=9 then [73,110,118,97,108,105,100,32,97,114,103,117,109,101,110,116] else if k=10 then [68,101,118,105,99,101,32,111,114,32,114,101,115,111,117,114,99,101,32,98,117,115,121] else if k=11 then [79,112,101,114,97,116,105,111,110,32,110,111,116,32,112,101,114,109,105,116,116,101,100] else if k=12 then [77,97,108,102,111,114,109,101,100,32,116,101,120,116] else if k=13 then [78,111,116,32,105,110,32,116,104,101,32,115,116,97,115,104] else [85,110,107,110,111,119,110,32,101,114,114,111,114]
theorem MW (k:Int):Fun Tryz.prog G2 104 [.sc (.int .i64 k)] (.str (Je k)) 0:=by
 by_cases h1:1<=k
 ·by_cases h2:k<=5
  ·have hc:k=1∨k=2∨k=3∨k=4∨k=5:=by omega
   clear h1 h2
   rcases hc with rfl | rfl | rfl | rfl | rfl
   all_goals
    refine fon Tryz.func104 ?_;dsimp only[Tryz.f104]
    push_cast -dsimp
    exact ⟨[],rfl,rfl,by simp only[Je];push_cast -dsimp [zb,za,CLe,zd]<;>rfl⟩
  ·have n1:¬k=1:=(by omega);have n2:¬k=2:=(by omega);have n3:¬k=3:=(by omega);have n4:¬k=4:=(by omega);have n5:¬k=5:=(by omega)
   have f1:¬k<1:=(by omega);have f2:6<=k:=(by omega);have f3:5<k:=(by omega)
   refine fon Tryz.func104 ?_;dsimp only[Tryz.f104]
   push_cast -dsimp [f1,f2,f3,n1,n2,n3,n4,n5]
   exact ⟨[],rfl,rfl,by push_cast -dsimp [zb,za,CLe,zd]<;>simp[Je,n1,n2,n3,n4,n5]⟩
 ·have n1:¬k=1:=(by omega);have n2:¬k=2:=(by omega);have n3:¬k=3:=(by omega);have n4:¬k=4:=(by omega);have n5:¬k=5:=(by omega)
  have f1:k<1:=by omega
  refine fon Tryz.func104 ?_;dsimp only[Tryz.f104]
  push_cast -dsimp [f1,n1,n2,n3,n4,n5]
  exact ⟨[],rfl,rfl,by push_cast -dsimp [zb,za,CLe,zd]<;>simp[Je,n1,n2,n3,n4,n5]⟩
theorem UM (k:Int):Fun Tryz.prog G0 26 [.sc (.int .i64 k)] (.str (Je k)) 0:=by
 by_cases h1:1<=k
 ·by_cases h2:k<=5
  ·have hc:k=1∨k=2∨k=3∨k=4∨k=5:=by omega
   clear h1 h2
   rcases hc with rfl | rfl | rfl | rfl | rfl
   all_goals
    refine fon Tryz.func26 ?_;dsimp only[Tryz.f26]
    push_cast -dsimp
    exact ⟨[],rfl,rfl,by simp only[Je];push_cast -dsimp [zb,za,CLe,zd]<;>rfl⟩
  ·have n1:¬k=1:=(by omega);have n2:¬k=2:=(by omega);have n3:¬k=3:=(by omega);have n4:¬k=4:=(by omega);have n5:¬k=5:=(by omega)
   have f1:¬k<1:=(by omega);have f2:6<=k:=(by omega);have f3:5<k:=(by omega)
   refine fon Tryz.func26 ?_;dsimp only[Tryz.f26]
   push_cast -dsimp [f1,f2,f3,n1,n2,n3,n4,n5]
   exact ⟨[],rfl,rfl,by push_cast -dsimp [zb,za,CLe,zd]<;>simp[Je,n1,n2,n3,n4,n5]⟩
 ·have n1:¬k=1:=(by omega);have n2:¬k=2:=(by omega);have n3:¬k=3:=(by omega);have n4:¬k=4:=(by omega);have n5:¬k=5:=(by omega)
  have f1:k<1:=by omega
  refine fon Tryz.func26 ?_;dsimp only[Tryz.f26]
  push_cast -dsimp [f1,n1,n2,n3,n4,n5]
  exact ⟨[],rfl,rfl,by push_cast -dsimp [zb,za,CLe,zd]<;>simp[Je,n1,n2,n3,n4,n5]⟩
theorem zbU (k:Int):Fun Tryz.prog G2 105 [.sc (.int .i64 k)] (.str (qm k)) 0:=by
 by_cases h1:0<=k
 ·by_cases h2:k<=22
  ·have hc:k=0∨k=1∨k=2∨k=3∨k=4∨k=5∨k=6∨k=7∨k=8∨k=9∨k=10∨k=11∨k=12∨k=13∨k=14∨k=15∨k=16∨k=17∨k=18∨k=19∨k=20∨k=21∨k=22:=by omega
   clear h1 h2
   rcases hc with rfl | rfl | rfl | rfl | rfl | rfl | rfl | rfl | rfl | rfl | rfl | rfl | rfl | rfl | rfl | rfl | rfl | rfl | rfl | rfl | rfl | rfl | rfl
   all_goals
    refine fon Tryz.func105 ?_;dsimp only[Tryz.f105]
    push_cast -dsimp
    exact ⟨[],rfl,rfl,by simp only[qm];push_cast -dsimp [zb,za,CLe,zd]<;>rfl⟩
  ·have n1:¬k=1:=(by omega);have n2:¬k=2:=(by omega);have n3:¬k=3:=(by omega);have n4:¬k=4:=(by omega);have n5:¬k=5:=(by omega);have n6:¬k=6:=(by omega);have n7:¬k=7:=(by omega);have n8:¬k=8:=(by omega);have n9:¬k=9:=(by omega);have n10:¬k=10:=(by omega);have n11:¬k=11:=(by omega);have n12:¬k=12:=(by omega);have n13:¬k=13:=(by omega);have n14:¬k=14:=(by omega);have n15:¬k=15:=(by omega);have n16:¬k=16:=(by omega);have n17:¬k=17:=(by omega);have n18:¬k=18:=(by omega);have n19:¬k=19:=(by omega);have n20:¬k=20:=(by omega);have n21:¬k=21:=(by omega);have n22:¬k=22:=(by omega)
   have f1:¬k<0:=(by omega);have f2:23<=k:=(by omega);have f3:22<k:=(by omega)
   refine fon Tryz.func105 ?_;dsimp only[Tryz.f105]
   push_cast -dsimp [f1,f2,f3,n1,n2,n3,n4,n5,n6,n7,n8,n9,n10,n11,n12,n13,n14,n15,n16,n17,n18,n19,n20,n21,n22]
   exact ⟨[],rfl,rfl,by push_cast -dsimp [zb,za,CLe,zd]<;>simp[qm,n1,n2,n3,n4,n5,n6,n7,n8,n9,n10,n11,n12,n13,n14,n15,n16,n17,n18,n19,n20,n21,n22]⟩
 ·have n1:¬k=1:=(by omega);have n2:¬k=2:=(by omega);have n3:¬k=3:=(by omega);have n4:¬k=4:=(by omega);have n5:¬k=5:=(by omega);have n6:¬k=6:=(by omega);have n7:¬k=7:=(by omega);have n8:¬k=8:=(by omega);have n9:¬k=9:=(by omega);have n10:¬k=10:=(by omega);have n11:¬k=11:=(by omega);have n12:¬k=12:=(by omega);have n13:¬k=13:=(by omega);have n14:¬k=14:=(by omega);have n15:¬k=15:=(by omega);have n16:¬k=16:=(by omega);have n17:¬k=17:=(by omega);have n18:¬k=18:=(by omega);have n19:¬k=19:=(by omega);have n20:¬k=20:=(by omega);have n21:¬k=21:=(by omega);have n22:¬k=22:=(by omega)
  have f1:k<0:=by omega
  refine fon Tryz.func105 ?_;dsimp only[Tryz.f105]
  push_cast -dsimp [f1,n1,n2,n3,n4,n5,n6,n7,n8,n9,n10,n11,n12,n13,n14,n15,n16,n17,n18,n19,n20,n21,n22]
  exact ⟨[],rfl,rfl,by push_cast -dsimp [zb,za,CLe,zd]<;>simp[qm,n1,n2,n3,n4,n5,n6,n7,n8,n9,n10,n11,n12,n13,n14,n15,n16,n17,n18,n19,n20,n21,n22]⟩
theorem yj (k:Int):Fun Tryz.prog G2 149 [.sc (.int .i64 k)] (.str (VV k)) 0:=by
 by_cases h1:0<=k
 ·by_cases h2:k<=13
  ·have hc:k=0∨k=1∨k=2∨k=3∨k=4∨k=5∨k=6∨k=7∨k=8∨k=9∨k=10∨k=11∨k=12∨k=13:=by omega
   clear h1 h2
   rcases hc with rfl | rfl | rfl | rfl | rfl | rfl | rfl | rfl | rfl | rfl | rfl | rfl | rfl | rfl
   all_goals
    refine fon Tryz.func149 ?_;dsimp only[Tryz.f149]
    push_cast -dsimp
    exact ⟨[],rfl,rfl,by simp only[VV];push_cast -dsimp [zb,za,CLe,zd]<;>rfl⟩
  ·have n0:¬k=0:=(by omega);have n1:¬k=1:=(by omega);have n2:¬k=2:=(by omega);have n3:¬k=3:=(by omega);have n4:¬k=4:=(by omega);have n5:¬k=5:=(by omega);have n6:¬k=6:=(by omega);have n7:¬k=7:=(by omega);have n8:¬k=8:=(by omega);have n9:¬k=9:=(by omega);have n10:¬k=10:=(by omega);have n11:¬k=11:=(by omega);have n12:¬k=12:=(by omega);have n13:¬k=13:=(by omega)
   have f1:¬k<0:=(by omega);have f2:14<=k:=(by omega);have f3:13<k:=(by omega)
   refine fon Tryz.func149 ?_;dsimp only[Tryz.f149]
   push_cast -dsimp [f1,f2,f3,n0,n1,n2,n3,n4,n5,n6,n7,n8,n9,n10,n11,n12,n13]
   exact ⟨[],rfl,rfl,by push_cast -dsimp [zb,za,CLe,zd]<;>simp[VV,n0,n1,n2,n3,n4,n5,n6,n7,n8,n9,n10,n11,n12,n13]⟩
 ·have n0:¬k=0:=(by omega);have n1:¬k=1:=(by omega);have n2:¬k=2:=(by omega);have n3:¬k=3:=(by omega);have n4:¬k=4:=(by omega);have n5:¬k=5:=(by omega);have n6:¬k=6:=(by omega);have n7:¬k=7:=(by omega);have n8:¬k=8:=(by omega);have n9:¬k=9:=(by omega);have n10:¬k=10:=(by omega);have n11:¬k=11:=(by omega);have n12:¬k=12:=(by omega);have n13:¬k=13:=(by omega)
  have f1:k<0:=by omega
  refine fon Tryz.func149 ?_;dsimp only[Tryz.f149]
  push_cast -dsimp [f1,n0,n1,n2,n3,n4,n5,n6,n7,n8,n9,n10,n11,n12,n13]
  exact ⟨[],rfl,rfl,by push_cast -dsimp [zb,za,CLe,zd]<;>simp[VV,n0,n1,n2,n3,n4,n5,n6,n7,n8,n9,n10,n11,n12,n13]⟩
theorem M9 (k:Int):Fun Tryz.prog G0 130 [.sc (.int .i64 k)] (.str (VV k)) 0:=by
 by_cases h1:0<=k
 ·by_cases h2:k<=13
  ·have hc:k=0∨k=1∨k=2∨k=3∨k=4∨k=5∨k=6∨k=7∨k=8∨k=9∨k=10∨k=11∨k=12∨k=13:=by omega
   clear h1 h2
   rcases hc with rfl | rfl | rfl | rfl | rfl | rfl | rfl | rfl | rfl | rfl | rfl | rfl | rfl | rfl
   all_goals
    refine fon Tryz.func130 ?_;dsimp only[Tryz.f130]
    push_cast -dsimp
    exact ⟨[],rfl,rfl,by simp only[VV];push_cast -dsimp [zb,za,CLe,zd]<;>rfl⟩
  ·have n0:¬k=0:=(by omega);have n1:¬k=1:=(by omega);have n2:¬k=2:=(by omega);have n3:¬k=3:=(by omega);have n4:¬k=4:=(by omega);have n5:¬k=5:=(by omega);have n6:¬k=6:=(by omega);have n7:¬k=7:=(by omega);have n8:¬k=8:=(by omega);have n9:¬k=9:=(by omega);have n10:¬k=10:=(by omega);have n11:¬k=11:=(by omega);have n12:¬k=12:=(by omega);have n13:¬k=13:=(by omega)
   have f1:¬k<0:=(by omega);have f2:14<=k:=(by omega);have f3:13<k:=(by omega)
   refine fon Tryz.func130 ?_;dsimp only[Tryz.f130]
   push_cast -dsimp [f1,f2,f3,n0,n1,n2,n3,n4,n5,n6,n7,n8,n9,n10,n11,n12,n13]
   exact ⟨[],rfl,rfl,by push_cast -dsimp [zb,za,CLe,zd]<;>simp[VV,n0,n1,n2,n3,n4,n5,n6,n7,n8,n9,n10,n11,n12,n13]⟩
 ·have n0:¬k=0:=(by omega);have n1:¬k=1:=(by omega);have n2:¬k=2:=(by omega);have n3:¬k=3:=(by omega);have n4:¬k=4:=(by omega);have n5:¬k=5:=(by omega);have n6:¬k=6:=(by omega);have n7:¬k=7:=(by omega);have n8:¬k=8:=(by omega);have n9:¬k=9:=(by omega);have n10:¬k=10:=(by omega);have n11:¬k=11:=(by omega);have n12:¬k=12:=(by omega);have n13:¬k=13:=(by omega)
  have f1:k<0:=by omega
  refine fon Tryz.func130 ?_;dsimp only[Tryz.f130]
  push_cast -dsimp [f1,n0,n1,n2,n3,n4,n5,n6,n7,n8,n9,n10,n11,n12,n13]
  exact ⟨[],rfl,rfl,by push_cast -dsimp [zb,za,CLe,zd]<;>simp[VV,n0,n1,n2,n3,n4,n5,n6,n7,n8,n9,n10,n11,n12,n13]⟩
open QuotePlain in
theorem MR (l:List UInt8) (hl:l.length<=1000000):Fun Tryz.prog G0 148 [.str l] (.str (qc l)) 0:=by
 refine Fun.wrap (by kernel_rfl) fun R vs h=>?_
 obtain ⟨v1,us1,rfl,h1,h⟩:=zf.1 h
 rw[zj]at h
 subst h
 rw[zQ]at h1
 subst h1
 refine (QuoteWalk.quote_walk ⟨l.toArray⟩ R.w (by simp[ByteArray.size];omega)).mono ?_
 rintro e w' ⟨rfl,hb⟩
 exact ⟨_,rfl,hb,fun R' _=>zQ.2 (by simp[Kit.ofL,Kit.toL])⟩
open QuotePlain in
theorem JM (l:List UInt8) (hl:l.length<=1000000):Fun Tryz.prog G0 52 [.str l] (.str (qc l)) 0:=by
 refine Fun.wrap (by kernel_rfl) fun R vs h=>?_
 obtain ⟨v1,us1,rfl,h1,h⟩:=zf.1 h
 rw[zj]at h
 subst h
 rw[zQ]at h1
 subst h1
 refine (QuoteWalk.refQuote_walk ⟨l.toArray⟩ R.w (by simp[ByteArray.size];omega)).mono ?_
 rintro e w' ⟨rfl,hb⟩
 exact ⟨_,rfl,hb,fun R' _=>zQ.2 (by simp[Kit.ofL,Kit.toL])⟩
end
end Go.Proofs.YtlkjpfiancahiaaGreatDoor.Vcg
