/- What the proof of MkdirsLeads leans on, part 4: Ref3 PathLaw Open Laid Op1 QuotePlain QuotePlain2 QuotePlain3 OpV Op2 Wld0 Ent1 Ent2 EntW TabW Wld1 Wld2 Wld3 Wld4 Wld5 Room Plc Crt Drp Mov SlcK Sts OpenW StW Sts2 StX Kep Stp Stp2 Stp3 Stp4 Deed Doo Dra1 Dra2 Rf4 Rf5 Rf6 Rf7 Op3 Op4 Op5 Ref19 Rf8 Snd2 Snd3 Snd4 Snd5 Snd6 Snd7 Rf9 Rf10 Grw Con Kit KitBytes QuoteWalk1 Builder QuoteWalk2 Diag1 Spl Diag2 Diag3 Diag4 Dra3 Ref19b Ref19c Rf11 Ref8. No condition beyond what each theorem states. -/
import Derived.Test.YtaipngaejfndgaaGreatDoorMkdirsLeadsKc
import Derived.ProofKit
import Derived.Deep.Slices
import Derived.Deep.Fields
import Derived.ChangeSame
import Derived.ChangeOld
import Derived.Lib.SmallJoins
import Derived.Lib.LaidU8
import Derived.OpenShut
import Derived.FnData
import Derived.Lib.Bytealg
import Derived.WalkKit
import Derived.Lib.Hide
import Derived.Lib.Join
import Derived.Deep.Draws
import Derived.Lib.SlBytesRow
import Derived.StillTailTactics
import Derived.Test.YtaipngaejfndgaaGreatDoorProg
import Derived.WalkLawsBesides
import Derived.WalkSpells
import Derived.Shelf.Strings.Builder1
import Derived.Shelf.Strings.BuilderF
import Derived.Shelf.Strings.SlTrimAscii
set_option linter.unusedVariables false
set_option linter.unusedSimpArgs false
set_option linter.unusedSectionVars false
set_option maxRecDepth 100000
set_option maxHeartbeats 4000000
namespace Go.Proofs.YtaipngaejfndgaaGreatDoor.Vcg
section
open Go.RowKit
theorem Gs (xs:List (List UInt8)) (k:Nat) (x:List UInt8) (h:xs[k]?=some x):Lib.join (xs.take (k+1)) [47]=(if k=0 then x else Lib.join (xs.take k) [47]++[47]++x):=by
 cases xs with
 | nil=>simp at h
 | cons y r =>
  cases k with
  | zero=>simp at h;subst h;simp[Lib.join_one]
  | succ k =>
   simp only[List.take_succ_cons,Nat.succ_ne_zero,if_false]
   rw[Lib.join_cons,Lib.join_cons,Lib.joinTail_take_succ _ _ _ x (by simpa using h)]
   simp[List.append_assoc]
theorem zlb (xs:List (List UInt8)) (k:Nat):(Lib.join (xs.take k) [47]).length<=(Lib.join xs [47]).length:=by
 by_cases h:xs.take k = []
 ·rw[h];simp[Lib.join]
 ·have h1:=Xt (xs.take k) h
  have hx:xs≠[]:=fun e=>h (by rw[e];simp)
  have h2:=Xt xs hx
  have h3:((xs.take k).map fun x=>x.length+1).sum<=(xs.map fun x=>x.length+1).sum:=by
   conv=>rhs;rw[←List.take_append_drop k xs,List.map_append,List.sum_append]
   omega
  omega
theorem zay (xs:List (List UInt8)) (k:Nat) (x:List UInt8) (h:xs[k]?=some x):(if xs.take (k+1) = [] then [] else z8 (xs.take (k+1)))=(if xs.take k = [] then [] else z8 (xs.take k))++[47]++x:=by
 have hk:k<xs.length:=(List.getElem?_eq_some_iff.1 h).1
 have h1:xs.take (k+1)≠[]:=fun e=>by have:=congrArg List.length e;rw[List.length_take]at this;simp only[List.length_nil]at this;omega
 rw[if_neg h1]
 unfold z8
 rw[if_neg h1,Gs xs k x h]
 by_cases hk0:k=0
 ·subst hk0;simp
 ·have h2:xs.take k≠[]:=fun e=>by have:=congrArg List.length e;rw[List.length_take]at this;simp only[List.length_nil]at this;omega
  simp[h2,hk0]
def jst (xs:List (List UInt8)) (k:Nat):List UInt8:=if xs.take k = [] then [] else z8 (xs.take k)
theorem zb2 (xs:List (List UInt8)) (k:Nat):(jst xs k).length<=(Lib.join xs [47]).length+1:=by
 unfold jst
 split
 ·simp
 ·rename_i h
  have:=zlb xs k
  unfold z8
  rw[if_neg h]
  simp;omega
theorem ya (xs:List (List UInt8)) (hx:xs.length<=2000001) (hl:(Lib.join xs [47]).length<=100000000):Fun Tryz.prog G0 64 [.sl 1 (zB xs)] (.str (z8 xs)) 0:=by
 by_cases h0:xs = []
 ·subst h0
  refine fon Tryz.func64 ?_;dsimp only[Tryz.f64]
  push_cast -dsimp
  exact ⟨[],rfl,rfl,by push_cast -dsimp [zb,za,CLe,ze]<;>simp[z8]⟩
 ·have h0':¬((xs.length:Int)=0):=by have:=List.length_pos_iff.2 h0;omega
  refine fon Tryz.func64 ?_;dsimp only[Tryz.f64]
  push_cast -dsimp [h0']
  refine loop (fun k:Nat=>⟨[(0,.sl 1 (zB xs)),(3,.str (jst xs k)),(4,.sc (.int .i64 k))],[],0,0⟩) (fun k=>k<=xs.length) (fun k=>xs.length-k) 0 (Nat.zero_le _) ?_ ?_
  ·exact j9.mk [] rfl rfl (Nat.zero_le _) rfl (by push_cast -dsimp [zb,za,CLe,ze]<;>simp[jst]) (by push_cast -dsimp [zb,za,CLe,ze])
  ·intro k hk
   by_cases h:k<xs.length
   ·have hg:=XT xs k h
    have hst:jst xs (k+1)=jst xs k++[47]++xs[k]'h:=zay xs k (xs[k]'h) (List.getElem?_eq_getElem h)
    have hjk:=zb2 xs k
    have hjl:=zb2 xs (k+1)
    rw[hst]at hjl
    simp only[List.length_append,List.length_cons,List.length_nil]at hjl
    push_cast -dsimp [h,hg]
    repeat refine an ?_
    refine ⟨k+1,by omega,by omega,j9.mk [] rfl rfl (Nat.zero_le _) rfl ?_ (by push_cast -dsimp [zb,za,CLe,ze])⟩
    push_cast -dsimp [zb,za,CLe,ze]
    simp[hst]
   ·have hkl:k=xs.length:=by omega
    push_cast -dsimp [h]
    exact ⟨[],rfl,rfl,by push_cast -dsimp [zb,za,CLe,ze]<;>simp[jst,hkl,h0]⟩
theorem Zn (l:List UInt8) (hl:l.length<=2000000):Fun Tryz.prog G0 63 [.str l] (qh (may l)) 0:=by
 refine fon Tryz.func63 ?_;dsimp only[Tryz.f63]
 push_cast -dsimp
 refine loop (fun k:Nat=>⟨[(0,.str l),(3,.sc (.int .i64 k))],[],0,0⟩) (fun k=>k<=l.length/\∀ j (hj:j<l.length),j<k->bad (l[j]'hj)=false) (fun k=>l.length-k) 0 ⟨Nat.zero_le _,fun j _ hj=>by omega⟩ ?_ ?_
 ·exact wk
 ·intro k hk
  have hk1:=hk.1
  have hk2:=hk.2
  by_cases h:k<l.length
  ·have hb:l[k]?=some (l[k]'h):=List.getElem?_eq_getElem h
   have hbad:bad (l[k]'h)=true->may l=false:=fun hb=>by
    have:l.any bad=true:=List.any_eq_true.2 ⟨l[k]'h,List.getElem_mem h,hb⟩
    simp[may,this]
   by_cases h47:l[k]'h=47
   ·have h1:(((l[k]'h).toNat:Int)=47):=by rw[h47];rfl
    push_cast -dsimp [h,hb,h1]
    refine ⟨by omega,[],rfl,rfl,?_⟩
    push_cast -dsimp [zb,za,CLe,ze]
    rw[hbad (by simp[bad,h47])]
   ·have h1:¬(((l[k]'h).toNat:Int)=47):=zix h47
    by_cases h00:l[k]'h=0
    ·have h2:(((l[k]'h).toNat:Int)=0):=by rw[h00];rfl
     push_cast -dsimp [h,hb,h1,h2]
     refine ⟨by omega,by omega,[],rfl,rfl,?_⟩
     push_cast -dsimp [zb,za,CLe,ze]
     rw[hbad (by simp[bad,h00])]
    ·have h2:¬(((l[k]'h).toNat:Int)=0):=zix h00
     push_cast -dsimp [h,hb,h1,h2]
     repeat refine an ?_
     refine ⟨k+1,⟨by omega,fun j hj hjk=>?_⟩,by omega,wk⟩
     rcases Nat.lt_or_ge j k with g | g
     ·exact hk2 j hj g
     ·have:j=k:=by omega
      subst this
      simp[bad,h47,h00]
  ·have hany:l.any bad=false:=List.any_eq_false.2 fun x hx=>by
    obtain ⟨j,hj,rfl⟩:=List.getElem_of_mem hx
    simp[hk2 j hj (by omega)]
   obtain rfl:k=l.length:=by omega
   by_cases h0:l = []
   ·subst h0
    push_cast -dsimp
    exact ⟨[],rfl,rfl,by push_cast -dsimp [zb,za,CLe,ze]<;>simp[may]⟩
   ·have h1:(1:Int)<=(l.length:Int):=by have:=List.length_pos_iff.2 h0;omega
    by_cases h2:(l.length:Int)<=255
    ·have h2':l.length<=255:=by omega
     by_cases h4:l = [46]
     ·subst h4
      push_cast -dsimp
      exact ⟨[],rfl,rfl,by push_cast -dsimp [zb,za,CLe,ze]<;>simp[may]⟩
     ·by_cases h5:l = [46,46]
      ·subst h5
       push_cast -dsimp [h4]
       exact ⟨[],rfl,rfl,by push_cast -dsimp [zb,za,CLe,ze]<;>simp[may]⟩
      ·push_cast -dsimp [h,h1,h2,h4,h5]
       exact ⟨[],rfl,rfl,by push_cast -dsimp [zb,za,CLe,ze]<;>simp[may,h0,h2',hany,h4,h5]⟩
    ·have h2':¬l.length<=255:=by omega
     push_cast -dsimp [h,h1,h2]
     exact ⟨[],rfl,rfl,by push_cast -dsimp [zb,za,CLe,ze]<;>simp[may,h2']⟩
def JQ (p q:List UInt8):Bool:=decide ((zh p).take (zh q).length=zh q)
theorem ZP (p q:List UInt8) (hp:p.length<=1000000) (hq:q.length<=1000000):Fun Tryz.prog G0 96 [.str p,.str q] (qh (JQ p q)) 0:=by
 have hn:=Qh p (by omega)
 have hm:=Qh q (by omega)
 have hs:=z7 p
 have ht:=z7 q
 by_cases h:(zh p).length<(zh q).length
 ·refine fon Tryz.func96 ?_;dsimp only[Tryz.f96]
  push_cast -dsimp
  refine call hn ?_
  push_cast -dsimp
  refine call hm ?_
  push_cast -dsimp [h]
  refine ⟨[],rfl,rfl,?_⟩
  push_cast -dsimp [zb,za,CLe,ze]
  have:¬(zh p).take (zh q).length=zh q:=fun e=>by have:=congrArg List.length e;rw[List.length_take]at this;omega
  simp[JQ,this]
 ·refine fon Tryz.func96 ?_;dsimp only[Tryz.f96]
  push_cast -dsimp
  refine call hn ?_
  push_cast -dsimp
  refine call hm ?_
  push_cast -dsimp [h]
  refine loop (fun k:Nat=>⟨[(5,.own 0 9 1 (zB (zh p))),(6,.own 1 9 1 (zB (zh q))),(7,.sc (.int .i64 k))],[],2,0⟩) (fun k=>k<=(zh q).length/\(zh p).take k=(zh q).take k) (fun k=>(zh q).length-k) 0 ⟨Nat.zero_le _,rfl⟩ ?_ ?_
  ·exact wks [.inl 0,.inl 1]
  ·intro k hk
   have hk1:=hk.1
   have hk2:=hk.2
   by_cases h3:k<(zh q).length
   ·have hg1:=XT (zh p) k (by omega)
    have hg2:=XT (zh q) k h3
    by_cases he:(zh p)[k]'(by omega)=(zh q)[k]'h3
    ·push_cast -dsimp [h3,hg1,hg2,he]
     repeat refine an ?_
     refine ⟨k+1,⟨by omega,?_⟩,by omega,wks [.inl 0,.inl 1]⟩
     rw[List.take_add_one,List.take_add_one,hk2,List.getElem?_eq_getElem h3,List.getElem?_eq_getElem (by omega:k<(zh p).length),he]
    ·push_cast -dsimp [h3,hg1,hg2,he]
     repeat refine an ?_
     refine ⟨[],rfl,rfl,?_⟩
     push_cast -dsimp [zb,za,CLe,ze]
     have:¬(zh p).take (zh q).length=zh q:=fun e=>he (by
      have:=congrArg (·[k]?) e
      simp only[List.getElem?_take,if_pos h3]at this
      rw[List.getElem?_eq_getElem (by omega),List.getElem?_eq_getElem h3]at this
      exact Option.some.inj this)
     simp[JQ,this]
   ·have hkl:k=(zh q).length:=by omega
    push_cast -dsimp [h3]
    refine ⟨[],rfl,rfl,?_⟩
    push_cast -dsimp [zb,za,CLe,ze]
    rw[hkl,List.take_length]at hk2
    simp[JQ,hk2]
theorem Y9 (p:List UInt8) (hp:p.length<=2000000):Fun Tryz.prog G0 27 [.str p] (Jz p) 1:=by
 have hn:=Qh p (by omega)
 have hs:=z7 p
 have hj:=Qb p
 refine fon Tryz.func27 ?_;dsimp only[Tryz.f27]
 push_cast -dsimp
 refine call hn ?_
 push_cast -dsimp
 refine loop (fun k:Nat=>⟨[(0,.str p),(4,.own 0 9 1 (zB (zh p))),(5,.sc (.int .i64 k))],[],1,0⟩) (fun k=>k<=(zh p).length/\∀ j (hj:j<(zh p).length),j<k->may ((zh p)[j]'hj)=true) (fun k=>(zh p).length-k) 0 ⟨Nat.zero_le _,fun j _ hj=>by omega⟩ ?_ ?_
 ·exact wks [.inl 0]
 ·intro k hk
  have hk1:=hk.1
  have hk2:=hk.2
  by_cases h:k<(zh p).length
  ·have hg:=XT (zh p) k h
   have hlen:=hj.2 ((zh p)[k]'h) (List.getElem_mem h)
   push_cast -dsimp [h,hg]
   refine ⟨by omega,?_⟩
   refine call (Zn ((zh p)[k]'h) (by omega)) ?_
   push_cast -dsimp
   cases hm:may ((zh p)[k]'h) with
   | true =>
    push_cast -dsimp
    repeat refine an ?_
    refine ⟨k+1,⟨by omega,fun j hj hjk=>?_⟩,by omega,wks [.inl 0]⟩
    rcases Nat.lt_or_ge j k with g | g
    ·exact hk2 j hj g
    ·have:j=k:=by omega
     subst this;exact hm
   | false =>
    have hall:(zh p).all may=false:=List.all_eq_false.2 ⟨(zh p)[k]'h,List.getElem_mem h,by simp[hm]⟩
    push_cast -dsimp
    exact ⟨[.inr (9,1)],rfl,rfl,by simp only[Jz,jN,hall];push_cast -dsimp [zb,za,CLe,ze]<;>simp⟩
  ·have hall:(zh p).all may=true:=List.all_eq_true.2 fun x hx=>by
    obtain ⟨j,hj,rfl⟩:=List.getElem_of_mem hx
    exact hk2 j hj (by omega)
   push_cast -dsimp [h]
   refine call (ya (zh p) (by omega) (by omega)) ?_
   push_cast -dsimp
   by_cases h1:z8 (zh p)=p
   ·push_cast -dsimp [h1]
    exact ⟨[.inl 0],rfl,rfl,by simp only[Jz,jN,h1,hall];push_cast -dsimp [zb,za,CLe,ze]<;>simp⟩
   ·push_cast -dsimp [h1]
    exact ⟨[.inr (9,1)],rfl,rfl,by simp only[Jz,jN,h1];push_cast -dsimp [zb,za,CLe,ze]<;>simp⟩
end
section
open Go.RowKit
def QO (x:List UInt8):Prop:=x≠[]/\(47:UInt8)∉x
theorem zeE:∀ a t:List UInt8,jx (a++47 :: t)=jx a++jx t
 | [],t=>by
  have:jx (47 :: t) = [] :: jx t:=rfl
  exact this
 | b :: a,t=>by
  have ih:=zeE a t
  have e1:jx (b :: (a++47 :: t))=if b=47 then [] :: jx (a++47 :: t) else match jx (a++47 :: t) with
   | []=>[[b]]
   | x :: r=>(b :: x) :: r:=rfl
  have e2:jx (b :: a)=if b=47 then [] :: jx a else match jx a with
   | []=>[[b]]
   | x :: r=>(b :: x) :: r:=rfl
  rw[List.cons_append,e1,e2,ih]
  by_cases hb:b=47
  ·simp[hb]
  ·rw[if_neg hb,if_neg hb]
   have hne:=Nr a
   cases hs:jx a with
   | nil=>exact absurd hs hne
   | cons x r=>simp
theorem zbz:∀ x:List UInt8,(47:UInt8)∉x->jx x = [x]
 | [],_=>rfl
 | b :: x,h=>by
  have hb:¬(b=47):=fun e=>h (by rw[e];exact List.mem_cons_self)
  have ih:=zbz x (fun hx=>h (List.mem_cons_of_mem _ hx))
  unfold jx
  rw[if_neg hb,ih]
theorem zcK:∀ (l x:List UInt8),x∈jx l->(47:UInt8)∉x
 | [],x,h=>by simp[jx]at h;subst h;simp
 | b :: l,x,h=>by
  have ih:=zcK l
  unfold jx at h
  by_cases hb:b=47
  ·rw[if_pos hb]at h
   rcases List.mem_cons.1 h with rfl | h
   ·simp
   ·exact ih x h
  ·rw[if_neg hb]at h
   have hne:=Nr l
   cases hs:jx l with
   | nil=>exact absurd hs hne
   | cons y r =>
    rw[hs]at h ih
    simp only at h
    rcases List.mem_cons.1 h with rfl | h
    ·intro hm
     rcases List.mem_cons.1 hm with e | hm
     ·exact hb e.symm
     ·exact ih y List.mem_cons_self hm
    ·exact ih x (List.mem_cons_of_mem _ h)
theorem Uc {l x:List UInt8} (h:x∈zh l):QO x:=by
 rw[j8,List.mem_filter]at h
 exact ⟨by simpa using h.2,zcK l x h.1⟩
theorem VS (a t:List UInt8):zh (a++47 :: t)=zh a++zh t:=by
 rw[j8,j8,j8,zeE,List.filter_append]
theorem N0 {x:List UInt8} (h:QO x):zh x = [x]:=by
 rw[j8,zbz x h.2]
 simp[h.1]
theorem M4 (l:List UInt8):zh (47 :: l)=zh l:=VS [] l
theorem kc:∀ xs:List (List UInt8),(∀ x∈xs,QO x)->zh (Lib.join xs [47])=xs
 | [],_=>rfl
 | [x],h=>by rw[Lib.join_one];exact N0 (h x List.mem_cons_self)
 | x :: y :: r,h=>by
  have ih:=kc (y :: r) fun z hz=>h z (List.mem_cons_of_mem _ hz)
  rw[js,List.append_assoc]
  show zh (x++47 :: Lib.join (y :: r) [47])=_
  rw[VS,ih,N0 (h x List.mem_cons_self)]
  rfl
theorem YF (xs:List (List UInt8)) (h:∀ x∈xs,QO x):zh (z8 xs)=xs:=by
 unfold z8
 by_cases hx:xs = []
 ·rw[if_pos hx,hx];rfl
 ·rw[if_neg hx,M4,kc xs h]
theorem Z8 {x:List UInt8} (h:may x=true):QO x:=by
 simp only[may,Bool.and_eq_true,Bool.not_eq_true',decide_eq_false_iff_not]at h
 refine ⟨h.1.1.1.1,fun hm=>?_⟩
 have:=List.any_eq_false.1 h.1.1.2 47 hm
 exact this (by decide)
theorem zee (xs zs:List (List UInt8)) (hx:xs≠[]) (hz:zs≠[]):z8 (xs++zs)=z8 xs++47 :: Lib.join zs [47]:=by
 unfold z8
 rw[if_neg hx,if_neg (by simp[hx])]
 simp only[List.cons_append,List.cons.injEq,true_and]
 induction xs with
 | nil=>exact absurd rfl hx
 | cons x r ih =>
  cases r with
  | nil =>
   cases zs with
   | nil=>exact absurd rfl hz
   | cons z zs=>simp only[List.cons_append,List.nil_append];rw[js,Lib.join_one];simp
  | cons y r =>
   have:=ih (by simp)
   simp only[List.cons_append]at this ⊢
   rw[js,js,this]
   simp
theorem xK (xs ys:List (List UInt8)) (hx:∀ x∈xs,QO x) (hy:∀ y∈ys,QO y):YK (z8 xs) (z8 ys)=decide (xs.take ys.length=ys):=by
 have nx:=YF xs hx
 have ny:=YF ys hy
 rw[Bool.eq_iff_iff]
 simp only[decide_eq_true_eq,YK,Bool.or_eq_true]
 constructor
 ·rintro ((h | h) | h)
  ·have:xs=ys:=by rw[←nx,←ny,h]
   rw[this,List.take_length]
  ·have:ys = []:=by rw[←ny,h];rfl
   rw[this];rfl
  ·unfold Lib.hasPrefix at h
   obtain ⟨t,ht⟩:=List.isPrefixOf_iff_prefix.1 h
   have:xs=ys++zh t:=by
    rw[←nx,←ht,List.append_assoc]
    show zh (z8 ys++47 :: t)=_
    rw[VS,ny]
   rw[this,List.take_left]
 ·intro h
  have e:xs=ys++xs.drop ys.length:=by
   conv=>lhs;rw[←List.take_append_drop ys.length xs,h]
  by_cases hys:ys = []
  ·exact .inl (.inr (by rw[hys];rfl))
  ·by_cases hd:xs.drop ys.length = []
   ·refine .inl (.inl ?_)
    rw[hd,List.append_nil]at e
    rw[e]
   ·refine .inr ?_
    rw[e,zee _ _ hys hd]
    unfold Lib.hasPrefix
    refine List.isPrefixOf_iff_prefix.2 ⟨Lib.join (xs.drop ys.length) [47],?_⟩
    simp
theorem Vm {p:List UInt8} (h:jN p=true):z8 (zh p)=p:=by
 unfold jN at h
 simp only[Bool.and_eq_true,decide_eq_true_eq]at h
 exact h.1
theorem xi (p q:List UInt8) (hp:jN p=true) (hq:jN q=true):YK p q=JQ p q:=by
 have h:=xK (zh p) (zh q) (fun x hx=>Uc hx) (fun x hx=>Uc hx)
 rw[Vm hp,Vm hq]at h
 exact h
end
section
open Go.RowKit Go.ChangeMaps Go.ChangeShapes Go.WideShapes Go.Deep Go.Joins
theorem xf (R:Env):YN G0 R:=fun g cs h=>by cases h
theorem ZR:∀ {rows:List (List C)},(∀ r∈rows,∃ c,r = [c]/\∃ l:List UInt8,c = .str l/\l.length<=maxLen)->∃ xs:List (List UInt8),rows=zB xs/\∀ x∈xs,x.length<=maxLen
 | [],_=>⟨[],rfl,fun x h=>by cases h⟩
 | r :: rows,h=>by
  obtain ⟨xs,rfl,hx⟩:=ZR fun r' hr=>h r' (List.mem_cons_of_mem _ hr)
  obtain ⟨c,rfl,l,rfl,hl⟩:=h r List.mem_cons_self
  exact ⟨l :: xs,rfl,fun x hx'=>(List.mem_cons.1 hx').elim (fun e=>e▸hl) (hx x)⟩
section
variable {H:Type} {enc:TypeId×Value->H} {W:World}
theorem zf4:Opn enc Tryz.prog W 30 fun c=>∃ xs:List (List UInt8),c = .sl 1 (zB xs)/\xs.length<=maxLen/\∀ x∈xs,x.length<=maxLen:=fun fuel cs x hx=>by
 obtain ⟨v,c,rfl,⟨rows,rfl,hl,hr⟩,h1,h2⟩:=Opn.slice (W:=W) (enc:=enc) Tryz.underlying30 (show Tryz.prog.cellsOf 9=1 by kernel_rfl) (Nat.zero_lt_one) (qJ.one (Opn.str Tryz.underlying9)) fuel cs x hx
 obtain ⟨xs,rfl,hx'⟩:=ZR hr
 exact ⟨v,_,rfl,⟨xs,rfl,by simpa using hl,hx'⟩,h1,h2⟩
end
end
section
open Go.RowKit
mutual
/-- the cells that read as a datum of jN data -/
def Q6:DataW Unit->Option (List Value)
 | .lit (.int k n)=>some [.int k n]
 | .lit (.bool b)=>some [.bool b]
 | .lit (.string l)=>some [.string ⟨l.toArray⟩]
 | .agg ds=>V7 ds
 | _=>none
def V7:List (DataW Unit)->Option (List Value)
 | []=>some []
 | d :: ds=>match Q6 d,V7 ds with
  | some a,some b=>some (a++b)
  | _,_=>none
end
def NQ (P:Program):Nat->List Field->Nat->Bool
 | j,[],n=>j==n
 | j,f :: fs,n=>f.offset==j&&NQ P (j+P.cellsOf f.type) fs n
def Vy (P:Program):Nat->TypeId->Bool
 | 0,_=>false
 | m+1,t=>match P.underlying t with
  | some .bool=>true
  | some (.int _)=>true
  | some .string=>true
  | some (.struct fs)=>NQ P 0 fs.toList (P.cellsOf t)&&fs.toList.all fun f=>Vy P m f.type
  | some (.array n e)=>Vy P m e&&P.cellsOf t==n*P.cellsOf e
  | _=>false
section
variable {enc:TypeId×Value->Unit} {P:Program} {w:World} {base:Nat} {spare:Nat->Bool} {held:Bool}
theorem VG {d:DataW Unit} {ds:List (DataW Unit)} {a b:List Value} (h1:Q6 d=some a) (h2:V7 ds=some b):V7 (d :: ds)=some (a++b):=by
 rw[V7,h1,h2]
theorem QL {n:Nat} {cs:List Value} (ih:∀ t cs d p,Vy P n t=true->DataW.trod enc P w base spare held n t cs=some (d,p)->Q6 d=some cs) {m:Nat} (hm:∀ t cs d p,Vy P m t=true->DataW.trod enc P w base spare held n t cs=some (d,p)->Q6 d=some cs) :
  ∀ (fs:List Field) (j N:Nat) (xs:List (DataW Unit×List MemPlace)),NQ P j fs N=true->(fs.all fun f=>Vy P m f.type)=true->cs.length=N->xs.length=fs.length ->
   (∀ (i:Nat) (f:Field),fs[i]?=some f->DataW.trod enc P w base spare held n f.type ((cs.drop f.offset).take (P.cellsOf f.type))=xs[i]?)->V7 (xs.map (·.1))=some (cs.drop j)
 | [],j,N,xs,hc,_,hl,hx,_=>by
  simp only[NQ,beq_iff_eq]at hc
  match xs,hx with
  | [],_=>rw[List.drop_of_length_le (by omega)];rfl
 | f :: fs,j,N,xs,hc,ha,hl,hx,hf=>by
  simp only[NQ,Bool.and_eq_true,beq_iff_eq]at hc
  simp only[List.all_cons,Bool.and_eq_true]at ha
  match xs,hx with
  | x :: xs,hx =>
   have h0:=hf 0 f rfl
   have e0:Q6 x.1=some ((cs.drop f.offset).take (P.cellsOf f.type)):=hm _ _ _ x.2 ha.1 h0
   have e1:=QL ih hm fs _ N xs hc.2 ha.2 hl (by simpa using hx) fun i g hg=>hf (i+1) g hg
   rw[List.map_cons,VG e0 e1,hc.1,←List.drop_drop,List.take_append_drop]
theorem Zy {n:Nat} {e:TypeId} {cs:List Value}:∀ (N j:Nat) (xs:List (DataW Unit×List MemPlace)),(∀ cs d p,DataW.trod enc P w base spare held n e cs=some (d,p)->Q6 d=some cs)->cs.length=(j+N)*P.cellsOf e->xs.length=N ->
   (∀ (i:Nat),i<N->DataW.trod enc P w base spare held n e ((cs.drop ((j+i)*P.cellsOf e)).take (P.cellsOf e))=xs[i]?)->V7 (xs.map (·.1))=some (cs.drop (j*P.cellsOf e))
 | 0,j,xs,_,hl,hx,_=>by
  match xs,hx with
  | [],_=>rw[List.drop_of_length_le (by simp at hl;omega)];rfl
 | N+1,j,xs,hm,hl,hx,hf=>by
  match xs,hx with
  | x :: xs,hx =>
   have e0:=hm _ _ x.2 (hf 0 (Nat.zero_lt_succ _))
   have e1:=Zy N (j+1) xs hm (by rw[hl];congr 1;omega) (by simpa using hx) fun i hi=>by
    have:=hf (i+1) (by omega)
    rw[show j+(i+1)=j+1+i by omega]at this
    exact this
   rw[List.map_cons,VG e0 e1,Nat.add_zero,show (j+1)*P.cellsOf e=j*P.cellsOf e+P.cellsOf e by rw[Nat.add_mul];omega,←List.drop_drop,List.take_append_drop]
theorem Xl:∀ (n m:Nat) (t:TypeId) (cs:List Value) (d:DataW Unit) (p:List MemPlace),Vy P m t=true->DataW.trod enc P w base spare held n t cs=some (d,p)->Q6 d=some cs
 | 0,m,t,cs,d,p,_,h=>by simp[DataW.trod]at h
 | n+1,0,t,cs,d,p,hf,h=>by simp[Vy]at hf
 | n+1,m+1,t,cs,d,p,hf,h=>by
  unfold Vy at hf
  split at hf
  ·rename_i hu
   obtain ⟨b,rfl,e⟩:=DataW.trod_bool hu h
   cases e;rfl
  ·rename_i k hu
   obtain ⟨b,rfl,e,_⟩:=DataW.trod_int hu h
   cases e;rfl
  ·rename_i hu
   obtain ⟨s,rfl,e,_⟩:=DataW.trod_string hu h
   cases e
   rw[Q6]
  ·rename_i fs hu
   simp only[Bool.and_eq_true]at hf
   obtain ⟨xs,n',hn,e,hl,hx,hg⟩:=DataW.trod_struct hu h
   cases hn;cases e
   have hrec:∀ t cs d p,Vy P m t=true->DataW.trod enc P w base spare held n t cs=some (d,p)->Q6 d=some cs:=fun t cs d p=>Xl n m t cs d p
   have:=QL (n:=n) (fun t cs d p=>Xl n n t cs d p) hrec fs.toList 0 _ xs hf.1 hf.2 hl (by rw[hx];rfl) fun i f hif=>hg i f (by simpa using hif)
   rw[List.drop_zero]at this
   rw[Q6,this]
  ·rename_i N e hu
   simp only[Bool.and_eq_true,beq_iff_eq]at hf
   obtain ⟨xs,n',hn,e',hl,hx,hg⟩:=DataW.trod_array hu h
   cases hn;cases e'
   have:=Zy (n:=n) (e:=e) (cs:=cs) N 0 xs (fun cs d p=>Xl n m e cs d p hf.1) (by rw[hl,hf.2,Nat.zero_add]) hx fun i hi=>by rw[Nat.zero_add];exact hg i hi
   rw[Nat.zero_mul,List.drop_zero]at this
   rw[Q6,this]
  ·cases hf
end
theorem HS {W:World} {g:Nat}:∀ (vs:List Value) (o:Nat),(∀ (i:Nat) v,vs[i]?=some v->W.cell? ⟨g,o+i,none⟩=some v)->(vs.all fun v=>v.oneCell')=true->zy (G9 W) (vs.map zt) g o:=fun vs o h ho=>by
 refine zK fun i c hc=>?_
 rw[List.getElem?_map,Option.map_eq_some_iff]at hc
 obtain ⟨v,hv,rfl⟩:=hc
 exact ⟨v,h i v hv,fun hf=>hf,qT _ _ v,List.all_eq_true.1 ho v (List.mem_of_getElem? hv)⟩
theorem k7 {P:Program} {W:World} {l:List (String×DataW Unit)} (h:laidMetH P l W) (hp:(l.filter fun x=>x.2.handleName?.isSome) = []) {n:String} {d:DataW Unit} (hm:(n,d)∈l) {g:Nat} {t:TypeId} {m:Nat} {vs:List Value}
  (hg:P.globalNamed n=some g) (ht:(P.globals[g]?).map (·.type)=some t) (hf:Vy P m t=true) (hd:Q6 d=some vs) (ho:(vs.all fun v=>v.oneCell')=true):zy (G9 W) (vs.map zt) g 0:=by
 unfold laidMetH at h
 rw[hp]at h
 obtain ⟨g',t',cs,fuel,p,hg',ht',hvar,htr⟩:=Lib.laidMet.reads h hm
 rw[hg]at hg';cases hg'
 rw[ht]at ht';cases ht'
 have e:=Xl _ _ _ _ _ _ hf htr
 have e':vs=cs.toList:=Option.some.inj (hd.symm.trans e)
 subst e'
 refine HS _ 0 (fun i v hv=>?_) ho
 rw[World.var?_cell hg hvar,Nat.zero_add]
 simpa using hv
theorem jZ {P:Program} {W:World} {l:List (String×DataW Unit)} (h:laidMetH P l W) (hp:(l.filter fun x=>x.2.handleName?.isSome) = []) {n:String} {d:DataW Unit} (hm:(n,d)∈l) {g:Nat} {t:TypeId} {m:Nat} {vs:List Value}
  (hg:P.globalNamed n=some g) (ht:(P.globals[g]?).map (·.type)=some t) (hf:Vy P m t=true) (hd:Q6 d=some vs) (ho:(vs.all fun v=>v.oneCell')=true) :
  zy (G9 W) (vs.map zt) g 0/\(∃ us ty fl,(G9 W).w.heap[g]?=some (.cells us ty fl)/\us.size=(vs.map zt).length)/\∀ o,¬(G9 W).M g o:=by
 refine ⟨k7 h hp hm hg ht hf hd ho,?_,fun o h=>h⟩
 unfold laidMetH at h
 rw[hp]at h
 obtain ⟨g',t',cs,fuel,p,hg',ht',hvar,htr⟩:=Lib.laidMet.reads h hm
 rw[hg]at hg';cases hg'
 rw[ht]at ht';cases ht'
 have e:=Xl _ _ _ _ _ _ hf htr
 have e':vs=cs.toList:=Option.some.inj (hd.symm.trans e)
 subst e'
 unfold World.var? at hvar
 rw[hg]at hvar
 simp only[Option.bind_some]at hvar
 split at hvar
 ·rename_i cs' ty fl hh
  cases hvar
  exact ⟨_,_,_,hh,by simp⟩
 ·cases hvar
theorem Fun.glob {P:Program} {G G':zk} {f:FuncId} {args:List C} {r:C} {n:Nat} (h:Fun P G f args r n) (hG:∀ g cs,G g=some cs->G' g=some cs):Fun P G' f args r n:=
 ⟨h.1,fun R vs hg ha=>h.2 R vs (fun g cs e=>hg g cs (hG g cs e)) ha⟩
theorem Fun.glob0 {P:Program} {G':zk} {f:FuncId} {args:List C} {r:C} {n:Nat} (h:Fun P G0 f args r n):Fun P G' f args r n:=h.glob fun g cs e=>by cases e
end
section
open CA CB
open Go.RowKit
def zoN:List Value:=[.bool false,.bool false,.bool false,.bool false,.bool false,.bool false,.bool false,.bool true,.bool false,.bool true,.bool true,.bool false,.bool false,.bool false,.bool true,.bool false,.bool true,.bool false,.bool false,.bool true,.bool false,.bool true,.bool false,.bool false,.bool false,.bool false,.bool false,.bool true,.bool false,.bool false,.bool true,.bool false,.bool false]
def G1:zk:=fun g=>if g=2 then some (zoN.map zt) else none
theorem zox:G1 2=some [.sc (.bool false),.sc (.bool false),.sc (.bool false),.sc (.bool false),.sc (.bool false),.sc (.bool false),.sc (.bool false),.sc (.bool true),.sc (.bool false),.sc (.bool true),.sc (.bool true),.sc (.bool false),.sc (.bool false),.sc (.bool false),.sc (.bool true),.sc (.bool false),.sc (.bool true),.sc (.bool false),.sc (.bool false),.sc (.bool true),.sc (.bool false),.sc (.bool true),.sc (.bool false),.sc (.bool false),.sc (.bool false),.sc (.bool false),.sc (.bool false),.sc (.bool true),.sc (.bool false),.sc (.bool false),.sc (.bool true),.sc (.bool false),.sc (.bool false)]:=rfl
attribute [push_cast] zox
def zJ (p:List UInt8):Bool:=jN p&&!decide (zh p = [])
theorem G5 (p:List UInt8) (hp:p.length<=1000000):Fun Tryz.prog G0 183 [.str p] (qh (zJ p)) 0:=by
 have h:=Mg p hp
 unfold Jz at h
 cases hb:jN p with
 | false =>
  rw[hb]at h
  refine fon Tryz.func183 ?_;dsimp only[Tryz.f183]
  push_cast -dsimp
  refine cl (h) ?_;push_cast -dsimp
  exact ⟨[],rfl,rfl,by push_cast -dsimp [zb,za,CLe,ze];simp[zJ,hb]⟩
 | true =>
  rw[hb,if_pos rfl]at h
  refine fon Tryz.func183 ?_;dsimp only[Tryz.f183]
  push_cast -dsimp
  refine cl (h) ?_;push_cast -dsimp
  refine ⟨[],rfl,rfl,?_⟩
  push_cast -dsimp [zb,za,CLe,ze]
  by_cases hn:zh p = []
  ·simp[zJ,hb,hn]
  ·have:=List.length_pos_iff.2 hn
   simp[zJ,hb,hn,this]
theorem zaq (l:List UInt8):Fun Tryz.prog G0 177 [.str l,.str [0]] (.sc (.int .i64 (Lib.indexByte l 0))) 0:=by
 refine Fun.wrap (by kernel_rfl) fun R vs h=>?_
 obtain ⟨v1,us1,rfl,h1,h⟩:=zd.1 h
 obtain ⟨v2,us2,rfl,h2,h⟩:=zd.1 h
 rw[zg]at h
 subst h
 rw[zC]at h1 h2
 subst h1 h2
 refine (Tryz.strings_Index_one ⟨l.toArray⟩ 0 R.w).mono ?_
 rintro e w' ⟨rfl,rfl⟩
 exact ⟨_,rfl,Below.refl _ _,fun R' _=>zj.2 (by simp)⟩
theorem U3:∀ l:List UInt8,decide (0<=Lib.indexByte l 0)=l.any (fun b=>decide (b=0))/\-1<=Lib.indexByte l 0
 | []=>⟨rfl,by decide⟩
 | b :: l=>by
  obtain ⟨h1,h2⟩:=U3 l
  unfold Lib.indexByte
  by_cases hb:b=0
  ·subst hb;simp
  ·have hb':(b==0)=false:=by simpa using hb
   rw[hb']
   simp only[Bool.false_eq_true,if_false,List.any_cons,hb,decide_false,Bool.false_or,←h1]
   split
   ·rename_i hm
    have:=beq_iff_eq.1 hm
    rw[this];simp
   ·rename_i hm
    have:¬Lib.indexByte l 0 = -1:=fun e=>hm (by rw[e];rfl)
    constructor
    ·rw[decide_eq_decide];omega
    ·omega
theorem HM (l:List UInt8) (hl:l.length<=1000000):Fun Tryz.prog G0 149 [.str l,.str [0]] (qh (l.any fun b=>decide (b=0))) 0:=by
 have h:=(U3 l).1
 refine fon Tryz.func149 ?_;dsimp only[Tryz.f149]
 push_cast -dsimp
 refine cl (zaq l) ?_;push_cast -dsimp
 exact dn (by push_cast -dsimp [zb,za,CLe,ze,h])
def YB (s:List UInt8):Bool:=!decide (s = [])&&decide (s.length<=4095)&&!(s.any fun b=>decide (b=0))
theorem zae (s:List UInt8) (hs:s.length<=1000000):Fun Tryz.prog G0 184 [.str s] (qh (YB s)) 0:=by
 have h:=HM s hs
 by_cases h1:s = []
 ·refine fon Tryz.func184 ?_;dsimp only[Tryz.f184]
  push_cast -dsimp [h1]
  exact ⟨[],rfl,rfl,by push_cast -dsimp [zb,za,CLe,ze];simp[YB,h1]⟩
 ·by_cases h2:s.length<=4095
  ·have h2':(s.length:Int)<=4095:=by omega
   refine fon Tryz.func184 ?_;dsimp only[Tryz.f184]
   push_cast -dsimp [h1,h2']
   refine cl (h) ?_;push_cast -dsimp
   exact ⟨[],rfl,rfl,by push_cast -dsimp [zb,za,CLe,ze];simp[YB,h1,h2]⟩
  ·have h2':¬(s.length:Int)<=4095:=by omega
   refine fon Tryz.func184 ?_;dsimp only[Tryz.f184]
   push_cast -dsimp [h1,h2']
   exact ⟨[],rfl,rfl,by push_cast -dsimp [zb,za,CLe,ze];simp[YB,h1,h2]⟩
end
end Go.Proofs.YtaipngaejfndgaaGreatDoor.Vcg
section
namespace Go.Proofs.YtaipngaejfndgaaGreatDoor.QuotePlain
abbrev Bs:=List UInt8
def good (c:UInt8):Bool:=decide (32<=c.toNat/\c.toNat<=126/\c.toNat≠34/\c.toNat≠92)
def zjb:Bs:=[48,49,50,51,52,53,54,55,56,57,97,98,99,100,101,102]
def H6 (n:Nat):UInt8:=zjb.getD n 0
def qb (c:UInt8):Bs:=if good c then [c] else [92,120,H6 (c.toNat / 16),H6 (c.toNat % 16)]
def mid (l:Bs):Bs:=l.flatMap qb
def z6 (l:Bs):Bs:=34 :: (mid l++[34])
def zoY (l:Bs):Bool:=decide (l≠[])&&l.all fun c=>decide (33<=c.toNat/\c.toNat<=126/\c.toNat≠34)
def zmh (c:UInt8):Nat:=(zjb.findIdx? (·==c)).getD 16
def zib:Bs->UInt8×Nat
 | []=>(0,0)
 | c :: r =>
  if c≠92 then (if good c then (c,1) else (0,0))
  else match r with
   | x :: a :: b :: _=>if x=120/\zmh a<16/\zmh b<16/\good (UInt8.ofNat (zmh a*16+zmh b))=false then (UInt8.ofNat (zmh a*16+zmh b),4) else (0,0)
   | _=>(0,0)
theorem zcT {p:UInt8->Bool} (h:(List.range 256).all (fun n=>p (UInt8.ofNat n))=true) (c:UInt8):p c=true:=by
 have h1:=List.all_eq_true.1 h c.toNat (List.mem_range.2 c.toNat_lt)
 simpa using h1
def znd:Nat->Bs->Option (Bs×Nat)
 | 0,_=>none
 | _+1,[]=>none
 | f+1,c :: r=>if c=34 then some ([],1) else if (zib (c :: r)).2=0 then none else (znd f ((c :: r).drop (zib (c :: r)).2)).map fun x=>((zib (c :: r)).1 :: x.1,(zib (c :: r)).2+x.2)
def body (l:Bs):Option (Bs×Nat):=znd (l.length+1) l
def qtd:Bs->Option (Bs×Nat)
 | []=>none
 | c :: r=>if c=34 then (body r).map fun x=>(x.1,x.2+1) else none
def unq (l:Bs):Option Bs:=match qtd l with | some (t,n)=>if n=l.length then some t else none | none=>none
end Go.Proofs.YtaipngaejfndgaaGreatDoor.QuotePlain
end
section
namespace Go.Proofs.YtaipngaejfndgaaGreatDoor.QuotePlain
def okw (w:Bs):Bool:=(unq w).isSome||zoY w
def cut:Bs->Bs->Bool->Option (List Bs)
 | [],w,_=>if okw w then some [w] else none
 | c :: r,w,i=>if c=32/\i=false then (if okw w then (cut r [] i).map (w :: ·) else none) else cut r (w++[c]) (if c=34 then !i else i)
end Go.Proofs.YtaipngaejfndgaaGreatDoor.QuotePlain
end
section
namespace Go.Proofs.YtaipngaejfndgaaGreatDoor.QuotePlain
def F (q:List Bs):Bs:=q.flatMap (·++[32])
end Go.Proofs.YtaipngaejfndgaaGreatDoor.QuotePlain
end
namespace Go.Proofs.YtaipngaejfndgaaGreatDoor.Vcg
section
structure OpV where
 kind:Int
 slot:Int
 a:List UInt8
 b:List UInt8
 d:List UInt8
deriving DecidableEq,Inhabited
def jB (k:Int):Bool:=decide (k=3)||decide (k=7)||decide (k=9)||decide (k=10)
def znz (k:Int):Bool:=decide (k=2)||decide (k=3)||decide (k=5)||decide (k=6)
end
section
open CA CB
open Go.RowKit
def opL (o:OpV):List C:=[.sc (.int .i64 o.kind),.sc (.int .i64 o.slot),.str o.a,.str o.b,.str o.d]
def kD (o:OpV):Bool:=decide (1<=o.kind)&&decide (o.kind<=10)&&zJ o.a&&(if jB o.kind then decide (1<=o.slot)&&decide (o.slot<=1073741824) else decide (o.slot=0))&&(if znz o.kind then zJ o.b else decide (o.b = []))
 && (if o.kind=4 then YB o.d else decide (o.d = []))&&(!decide (o.kind=6)||(!YK o.a o.b&&!YK o.b o.a))
def zbj (o:OpV):Prop:=o.a.length<=1000000/\o.b.length<=1000000/\o.d.length<=1000000
theorem zdU (k s:Int) (a b d:List UInt8) (hs:zbj ⟨k,s,a,b,d⟩):Fun Tryz.prog G1 159 [.agg (opL ⟨k,s,a,b,d⟩)] (qh (kD ⟨k,s,a,b,d⟩)) 0:=by
 have hs1:a.length<=1000000:=hs.1
 have hs2:b.length<=1000000:=hs.2.1
 have hs3:d.length<=1000000:=hs.2.2
 have h1:=(G5 a (by omega)).glob0 (G':=G1)
 have h2:=(G5 b (by omega)).glob0 (G':=G1)
 have h3:=(zae d (by omega)).glob0 (G':=G1)
 have h4:=(U2 a b (by omega)).glob0 (G':=G1)
 have h5:=(U2 b a (by omega)).glob0 (G':=G1)
 unfold opL
 by_cases hk1:k<1
 ·have:¬1<=k:=by omega
  refine fon Tryz.func159 ?_;dsimp only[Tryz.f159]
  push_cast -dsimp [hk1]
  exact ⟨[],rfl,rfl,by push_cast -dsimp [zb,za,CLe,ze];simp[kD,this]⟩
 by_cases hk2:10<k
 ·have:¬k<=10:=by omega
  refine fon Tryz.func159 ?_;dsimp only[Tryz.f159]
  push_cast -dsimp [hk1,hk2]
  exact ⟨[],rfl,rfl,by push_cast -dsimp [zb,za,CLe,ze];simp[kD,this]⟩
 cases hp:zJ a with
 | false =>
  rw[hp]at h1
  refine fon Tryz.func159 ?_;dsimp only[Tryz.f159]
  push_cast -dsimp [hk1,hk2]
  refine cl (h1) ?_;push_cast -dsimp
  exact ⟨[],rfl,rfl,by push_cast -dsimp [zb,za,CLe,ze];simp[kD,hp]⟩
 | true =>
  rw[hp]at h1
  have hk:k=1∨k=2∨k=3∨k=4∨k=5∨k=6∨k=7∨k=8∨k=9∨k=10:=by omega
  clear hk1 hk2 hs hs1 hs2 hs3
  rcases hk with rfl | rfl | rfl | rfl | rfl | rfl | rfl | rfl | rfl | rfl
  all_goals
   refine fon Tryz.func159 ?_;dsimp only[Tryz.f159]
   push_cast -dsimp
   refine cl (h1) ?_;push_cast -dsimp
   repeat' (first
    | (refine call h2 ?_;push_cast -dsimp)
    | (refine UM h2 ?_;push_cast -dsimp)
    | (refine call h3 ?_;push_cast -dsimp)
    | (refine UM h3 ?_;push_cast -dsimp)
    | (refine call h4 ?_;push_cast -dsimp)
    | (refine UM h4 ?_;push_cast -dsimp)
    | (refine call h5 ?_;push_cast -dsimp)
    | (refine UM h5 ?_;push_cast -dsimp)
    | (refine br (fun h=>?_) (fun h=>?_)<;>push_cast -dsimp [h])
    | (refine ⟨[],rfl,rfl,?_⟩;push_cast -dsimp [zb,za,CLe,ze];clear h1 h2 h3 h4 h5;simp_all [kD,jB,znz]<;>omega))
end
section
structure zT where
 dir:Int
 name:List UInt8
 ino:Int
deriving DecidableEq,Inhabited
structure jP where
 slot:Int
 ino:Int
 content:Bool
 data:List UInt8
deriving DecidableEq,Inhabited
structure zS where
 fs:FsV
 kept:List jP
 pool:List zn
deriving DecidableEq,Inhabited
def qy:zT:=⟨0,[],0⟩
abbrev XQ (es:List zH):Prop:=jt jb zH.name es
def QV (n:List UInt8) (es:List zH):Bool:=Qa zH.name n es
def zF (n:List UInt8) (es:List zH):Int:=match jM zH.name n es with | some e=>e.ino | none=>0
def qF (n:List UInt8) (es:List zH):List zH:=JU zH.name n es
def zY (n:List UInt8) (i:Int) (es:List zH):List zH:=X8 jb zH.name ⟨n,i⟩ (JU zH.name n es)
def atW (xs:List zn):List (List UInt8)->zT->zT×Int
 | [],s=>(s,0)
 | n :: r,s=>if s.ino=0 then (qy,1) else if (zf s.ino xs).kind≠2 then (qy,3) else atW xs r ⟨(zf s.ino xs).ino,n,zF n (zf s.ino xs).es⟩
def atV (f:FsV) (p:List UInt8):zT×Int:=if jN p then atW f.xs (zh p) ⟨0,[],1⟩ else (qy,9)
def jU (f:FsV) (n b:Int):Bool:=decide (f.xs.length+n<=f.maxI)&&decide (zQ f.xs+b<=f.maxB)
def YW (d:Int) (es:List zH->List zH) (xs:List zn):List zn:=jk { zf d xs with es:=es (zf d xs).es } xs
def Uj (f:FsV) (s:zT) (k:Int) (t:List UInt8):FsV:={ f with next:=f.next+1,xs:=jk ⟨f.next,k,1,t,if k=2 then s.dir else 0,[]⟩ (YW s.dir (zY s.name f.next) f.xs) }
def Yr (f:FsV) (s:zT) (k:Int) (t:List UInt8):FsV×Int:=
 if may s.name then (if jU f 1 (if k=1 then (t.length:Int) else 0) then (Uj f s k t,0) else (f,8)) else (f,9)
def zkp (f:FsV) (s:zT):FsV:=
 if (zf s.ino f.xs).links-1=0 then { f with xs:=qN s.ino (YW s.dir (qF s.name) f.xs) }
 else { f with xs:=jk { zf s.ino f.xs with links:=(zf s.ino f.xs).links-1 } (YW s.dir (qF s.name) f.xs) }
def zpm (f:FsV) (s:zT) (i:Int):FsV:={ f with xs:=jk { zf i f.xs with links:=(zf i f.xs).links+1 } (YW s.dir (zY s.name i) f.xs) }
def zpp (f:FsV) (a b:zT):FsV:=
 let g:=YW b.dir (zY b.name a.ino) (YW a.dir (qF a.name) f.xs)
 if (zf a.ino g).kind=2 then { f with xs:=jk { zf a.ino g with parent:=b.dir } g } else { f with xs:=g }
def zp4 (f:FsV) (i:Int) (t:List UInt8):FsV:={ f with xs:=jk { zf i f.xs with data:=t } f.xs }
def zjN (f:FsV) (i:Int) (t:List UInt8):FsV×Int:=
 if jU f 0 ((t.length:Int)-(zf i f.xs).data.length) then (zp4 f i t,0) else (f,8)
def zqH (n:Int) (ks:List jP):Bool:=Qa jP.slot n ks
def zo0 (k:jP) (ks:List jP):List jP:=X8 zo5 jP.slot k ks
def zpE (w:zS) (n:Int) (s:zT):zS×Int:=
 if zqH n w.kept then (w,13)
 else (⟨zkp w.fs s,zo0 ⟨n,s.ino,false,[]⟩ w.kept,if (zf s.ino w.fs.xs).links=1 then jk { zf s.ino w.fs.xs with links:=0,parent:=0 } w.pool else w.pool⟩,0)
def Ui (w:zS) (n i:Int):zS×Int:=
 if zqH n w.kept then (w,13) else ({ w with kept:=zo0 ⟨n,i,true,(zf i w.fs.xs).data⟩ w.kept },0)
def isV (f:FsV) (p:List UInt8) (want:Bool):zT×zn×Int:=
 let a:=atV f p
 (a.1,zf a.1.ino f.xs,if a.2≠0 then a.2 else if want&&!zw a.1.ino f.xs then 1 else if !want&&zw a.1.ino f.xs then 2 else 0)
def YQ (f:FsV) (p:List UInt8):zn×Int:=
 let a:=isV f p true
 (a.2.1,if a.2.2≠0 then a.2.2 else if a.2.1.kind=2 then 4 else if a.2.1.kind=3 then 9 else 0)
def zP (w:zS) (p:List UInt8) (k:Int) (t:List UInt8):zS×Int:=
 if (isV w.fs p false).2.2≠0 then (w,(isV w.fs p false).2.2) else ({ w with fs:=(Yr w.fs (isV w.fs p false).1 k t).1 },(Yr w.fs (isV w.fs p false).1 k t).2)
def zkP (w:zS) (o:OpV):zS×Int:=
 if (YQ w.fs o.a).2≠0 then (w,(YQ w.fs o.a).2) else zP w o.b 1 (YQ w.fs o.a).1.data
def ziE (w:zS) (o:OpV):zS×Int:=
 if (YQ w.fs o.a).2≠0 then (w,(YQ w.fs o.a).2)
 else if (YQ w.fs o.b).2≠0 then (w,(YQ w.fs o.b).2)
 else if (YQ w.fs o.a).1.ino=(YQ w.fs o.b).1.ino then (w,9)
 else if (Ui w o.slot (YQ w.fs o.b).1.ino).2≠0 then (w,(Ui w o.slot (YQ w.fs o.b).1.ino).2)
 else if (zjN w.fs (YQ w.fs o.b).1.ino (YQ w.fs o.a).1.data).2≠0 then (w,(zjN w.fs (YQ w.fs o.b).1.ino (YQ w.fs o.a).1.data).2)
 else ({ (Ui w o.slot (YQ w.fs o.b).1.ino).1 with fs:=(zjN w.fs (YQ w.fs o.b).1.ino (YQ w.fs o.a).1.data).1 },0)
def zkc (w:zS) (o:OpV):zS×Int:=
 let a:=isV w.fs o.a true
 if a.2.2≠0 then (w,a.2.2) else if a.2.1.kind=2 then (w,11)
 else if (isV w.fs o.b false).2.2≠0 then (w,(isV w.fs o.b false).2.2)
 else ({ w with fs:=zpm w.fs (isV w.fs o.b false).1 a.2.1.ino },0)
def zoA (w:zS) (o:OpV):zS×Int:=
 if (isV w.fs o.a true).2.2≠0 then (w,(isV w.fs o.a true).2.2)
 else if (isV w.fs o.b false).2.2≠0 then (w,(isV w.fs o.b false).2.2)
 else ({ w with fs:=zpp w.fs (isV w.fs o.a true).1 (isV w.fs o.b false).1 },0)
def ziT (w:zS) (o:OpV):zS×Int:=
 let a:=isV w.fs o.a true
 if a.2.2≠0 then (w,a.2.2) else if a.2.1.es≠[] then (w,5) else zpE w o.slot a.1
def doV (w:zS) (o:OpV):zS×Int:=
 if !kD o then (w,12)
 else if o.kind=1 then zP w o.a 2 []
 else if o.kind=2 then zkP w o
 else if o.kind=3 then ziE w o
 else if o.kind=4 then zP w o.a 3 o.d
 else if o.kind=5 then zkc w o
 else if o.kind=6 then zoA w o
 else ziT w o
def jv (ks:List jP):Int:=match ks.getLast? with | some k=>k.slot | none=>0
structure zr where
 w:zS
 ops:List OpV
 diags:List (List UInt8)
 status:Int
 slot:Int
deriving DecidableEq,Inhabited
def Gj (w:zS):zr:=⟨w,[],[],0,jv w.kept⟩
def xQ (d:zr) (o:OpV):OpV:={ o with slot:=if o.kind=3∨o.kind=7 then d.slot+1 else 0 }
def zjr (d:zr) (o:OpV):zr×Int:=
 if 7<o.kind then (d,12)
 else if (doV d.w (xQ d o)).2≠0 then (d,(doV d.w (xQ d o)).2)
 else (⟨(doV d.w (xQ d o)).1,d.ops++[xQ d o],d.diags,d.status,if 0<(xQ d o).slot then (xQ d o).slot else d.slot⟩,0)
end
section
open CA CB
open Go.RowKit
theorem uM (a b:List UInt8):Fun Tryz.prog G0 221 [.str a,.str b] (.sc (.int .i64 (Lib.compareBytes a b))) 0:=by
 refine Fun.wrap (by kernel_rfl) fun R vs h=>?_
 obtain ⟨v1,us1,rfl,h1,h⟩:=zd.1 h
 obtain ⟨v2,us2,rfl,h2,h⟩:=zd.1 h
 rw[zg]at h
 subst h
 rw[zC]at h1 h2
 subst h1 h2
 refine (Tryz.strings_Compare ⟨a.toArray⟩ ⟨b.toArray⟩ R.w).mono ?_
 rintro e w' ⟨rfl,rfl⟩
 exact ⟨_,rfl,Below.refl _ _,fun R' _=>zj.2 (by simp)⟩
section
variable {G:zk}
theorem yQ (e:zH) (n:List UInt8):Fun Tryz.prog G 220 [.agg (H0 e),.str n] (.sc (.int .i64 (Lib.compareBytes e.name n))) 0:=by
 have h:=(uM e.name n).glob0 (G':=G)
 refine fon Tryz.func220 ?_;dsimp only[Tryz.f220]
 push_cast -dsimp
 refine cl (h) ?_;push_cast -dsimp
 exact dn
theorem Mf (es:List zH) (n:List UInt8) (hl:es.length<=100000) (hR:jt jb zH.name es) :
  Fun Tryz.prog G 219 [.sl 2 (zE es),.str n,.clo (.func 220) [] []] (.tup [.sc (.int .i64 (jf jb zH.name n es:Nat)),.sc (.bool (Qa zH.name n es))]) 0:=by
 refine fon Tryz.func219 ?_;dsimp only[Tryz.f219]
 push_cast -dsimp
 refine loop (fun p:Nat×Nat=>⟨[(0,.sl 2 (zE es)),(1,.str n),(2,.clo (.func 220) [] []),(8,.sc (.int .i64 (es.length:Nat))),(9,.sc (.int .i64 p.1)),(10,.sc (.int .i64 p.2))],[],0,0⟩)
  (fun p=>p.1<=p.2/\p.2<=es.length/\(∀ t (h:t<es.length),t<p.1->(jb).lt (zH.name es[t]) n=true)/\∀ t (h:t<es.length),p.2<=t->(jb).lt (zH.name es[t]) n=false) (fun p=>p.2-p.1) (0,es.length) ⟨Nat.zero_le _,Nat.le_refl _,fun t _ h=>by (simp at h),fun t h h'=>by (dsimp only at h';omega)⟩ ?_ ?_
 ·exact wk (by push_cast -dsimp [zb,za,CLe,ze,List.length_map])
 ·rintro ⟨i,j⟩ ⟨h1,h2,h3,h4⟩
  dsimp only at h1 h2 h3 h4 ⊢
  by_cases h:i<j
  ·obtain ⟨m,hm⟩:∃ m,m=(i+j) / 2:=⟨_,rfl⟩
   have hmi:((i:Int)+(j:Int)) / 2=(m:Int):=by omega
   have hml:m<es.length:=by omega
   have hat:=jn es m hml
   have hlt:=(zeQ es[m].name n).to_iff
   push_cast -dsimp [h,hmi,hat]
   repeat refine an ?_
   refine cl ((yQ es[m] n)) ?_;push_cast -dsimp
   cases hc:(jb).lt (zH.name es[m]) n with
   | true =>
    have hcv:(Lib.compareBytes es[m].name n<0)=True:=eq_true (hlt.mpr hc)
    push_cast -dsimp [hcv]
    repeat refine an ?_
    refine ⟨(m+1,j),⟨by omega,h2,fun t ht hlt2=>?_,h4⟩,by dsimp only;omega,wk⟩
    dsimp only at hlt2
    rcases Nat.lt_or_ge t m with q | q
    ·exact (jb).tr ((List.pairwise_iff_getElem.1 hR) t m ht hml q) hc
    ·have:t=m:=by omega
     subst this;exact hc
   | false =>
    have hcv:(Lib.compareBytes es[m].name n<0)=False:=eq_false (fun e=>by have h7:(jb).lt (zH.name es[m]) n=true:=hlt.mp e;rw[hc]at h7;cases h7)
    push_cast -dsimp [hcv]
    repeat refine an ?_
    refine ⟨(i,m),⟨by omega,by omega,h3,fun t ht hge=>?_⟩,by dsimp only;omega,wk⟩
    dsimp only at hge
    rcases Nat.lt_or_ge m t with q | q
    ·cases h9:(jb).lt (zH.name es[t]) n with
     | false=>rfl
     | true=>have:=(jb).tr ((List.pairwise_iff_getElem.1 hR) m t hml ht q) h9;rw[hc]at this;cases this
    ·have:t=m:=by omega
     subst this;exact hc
  ·have hij:i=j:=by omega
   subst hij
   have hrk:=Hp (o:=jb) (key:=zH.name) n es i h2 h3 h4
   push_cast -dsimp [h]
   refine br (fun hx=>?_) (fun hx=>?_)
   ·have hx:i<es.length:=by simpa using hx
    have hat:=jn es i hx
    have hh:=zlR n hR hrk hx
    push_cast -dsimp [hx,hat]
    repeat refine an ?_
    refine cl ((yQ es[i] n)) ?_;push_cast -dsimp
    have hcv:decide (Lib.compareBytes es[i].name n=0)=Qa zH.name n es:=by
     rw[hh]
     exact decide_eq_decide.2 (zfd es[i].name n).to_iff
    push_cast -dsimp [hcv]
    exact dn (by push_cast -dsimp [zb,za,CLe,ze,hrk])
   ·have hx:¬i<es.length:=by simpa using hx
    have hh:=ziB n hR (by omega)
    push_cast -dsimp [hx]
    exact dn (by push_cast -dsimp [zb,za,CLe,ze,hrk,hh])
theorem zdR (es:List zH) (n:List UInt8) (hl:es.length<=100000) (hR:XQ es):Fun Tryz.prog G 179 [.sl 2 (zE es),.str n] (.tup [.sc (.int .i64 (jf jb zH.name n es:Nat)),.sc (.bool (Qa zH.name n es))]) 0:=by
 refine fon Tryz.func179 ?_;dsimp only[Tryz.f179]
 push_cast -dsimp
 refine cl (Mf es n hl hR) ?_;push_cast -dsimp
 exact dn
theorem Me (es:List zH) (n:List UInt8) (hl:es.length<=100000) (hR:XQ es):Fun Tryz.prog G 151 [.sl 2 (zE es),.str n] (.tup [.sc (.int .i64 (zF n es)),.sc (.bool (QV n es))]) 0:=by
 obtain ⟨_,_,h3,h4⟩:=ui n hR
 have h:=zdR (G:=G) es n hl hR
 cases hh:Qa zH.name n es with
 | false =>
  have hf:zF n es=0:=by unfold zF;rw[(h4 hh).1]
  have he:QV n es=false:=hh
  rw[hh]at h
  refine fon Tryz.func151 ?_;dsimp only[Tryz.f151]
  push_cast -dsimp
  refine cl (h) ?_;push_cast -dsimp
  exact dn (by push_cast -dsimp [zb,za,CLe,ze,hf,he])
 | true =>
  obtain ⟨hlt,_,g2,_⟩:=h3 hh
  have hf:zF n es=es[jf jb zH.name n es].ino:=by unfold zF;rw[g2]
  have he:QV n es=true:=hh
  have hat:=jn es _ hlt
  rw[hh]at h
  refine fon Tryz.func151 ?_;dsimp only[Tryz.f151]
  push_cast -dsimp
  refine cl (h) ?_;push_cast -dsimp [hat]
  repeat refine an ?_
  exact dn (by push_cast -dsimp [zb,za,CLe,ze,hf,he])
end
end
section
open CA CB
open Go.RowKit
section
variable {G:zk}
theorem qX {es:List zH}:∀ r∈zE es,r.length=2:=fun r hr=>by
 obtain ⟨x,_,rfl⟩:=List.mem_map.1 hr;rfl
theorem qK {es:List zH}:jI (zE es):=fun r hr=>by
 obtain ⟨x,_,rfl⟩:=List.mem_map.1 hr;rfl
theorem vz {k c i:Nat} {rows:List (List C)} (hk:∀ r∈rows,r.length=k) (hi:i<=rows.length):(jy k rows c).take (i*k)=(rows.take i).flatten:=by
 have hf:=qk hk
 have h1:i*k<=rows.length*k:=Nat.mul_le_mul_right _ hi
 unfold jy
 rw[List.take_append_of_le_length (by omega),V1 hk]
theorem zin {es:List zH} {c r:Nat} {i:Int} (hr:r<es.length) :
  (jy 2 (zE es) c).take (r*2+1)++[C.sc (.int .i64 i)]++(jy 2 (zE es) c).drop (r*2+1+1)=jy 2 (zE (es.set r ⟨es[r].name,i⟩)) c:=by
 have hll:(zE es).length=es.length:=List.length_map ..
 have h:=vS (c:=c) (row:=H0 ⟨es[r].name,i⟩) (i:=r) qX rfl (show r<(zE es).length by omega)
 have e1:(zE es).set r (H0 ⟨es[r].name,i⟩)=zE (es.set r ⟨es[r].name,i⟩):=by simp[List.map_set]
 rw[e1]at h
 rw[←h]
 have t0:=vz (c:=c) (i:=r) (qX (es:=es)) (by omega)
 have t1:=vz (c:=c) (i:=r+1) (qX (es:=es)) (by omega)
 have e2:((zE es).take (r+1)).flatten=((zE es).take r).flatten++H0 es[r]:=by
  rw[List.take_add_one,jn es r hr];simp
 have e3:(jy 2 (zE es) c).take (r*2+1)=(jy 2 (zE es) c).take (r*2)++[C.str es[r].name]:=by
  have e4:(jy 2 (zE es) c).take (r*2+1)=((jy 2 (zE es) c).take ((r+1)*2)).take (r*2+1):=by rw[List.take_take,Nat.min_eq_left (by omega)]
  have hl0:((zE es).take r).flatten.length=r*2:=by
   rw[qk (k:=2) fun x hx=>qX x (List.mem_of_mem_take hx),List.length_take,hll,Nat.min_eq_left (by omega)]
  rw[e4,t1,e2,t0,List.take_append,hl0,List.take_of_length_le (by omega),show r*2+1-r*2=1 by omega]
  rfl
 rw[e3]
 simp
theorem zdv (es:List zH) (n:List UInt8) (i:Int) (hl:es.length<=90000) (hR:XQ es) :
  Fun Tryz.prog G 257 [.sl 2 (zE es),.str n,.sc (.int .i64 i)] (.own 0 141 2 (zE (zY n i es))) 1:=by
 obtain ⟨_,_,h3,h4⟩:=ui n hR
 have hll:(zE es).length=es.length:=List.length_map ..
 have hat:=zdR (G:=G) es n (by omega) hR
 have hrl:=zgr (o:=jb) (key:=zH.name) n es
 refine foF (fun _=>[]) Tryz.func257 ?_;dsimp only[Tryz.f257]
 push_cast -dsimp
 refine cl (hat) ?_;push_cast -dsimp
 refine YR [] [] (ur (zE es) qX qK (by omega)) rfl (by decide) (by decide) (by simp) (by push_cast -dsimp) (by push_cast -dsimp) (fun r bx' m hp=>?_)
 obtain ⟨rfl,⟨hne,c,h1,h2,rfl,rfl⟩ | ⟨he,⟨rfl,rfl⟩ | ⟨rfl,rfl⟩⟩⟩:=hp
 ·have hbl:=Qu qX h1
  have hre:∀ fp fo,C.reL fp fo (jy 2 (zE es) c)=jy 2 (zE es) c:=fun fp fo=>qw (qn qK)
  have hpos:=List.length_pos_iff.2 hne
  cases hh:Qa zH.name n es with
  | true =>
   obtain ⟨hlt,g1,g2,g3,g4⟩:=h3 hh
   have hset:zY n i es=es.set (jf jb zH.name n es) ⟨n,i⟩:=g4 ⟨n,i⟩ rfl
   have hbs:=zin (c:=c) (i:=i) hlt
   rw[g1,←hset]at hbs
   have hwl:(zY n i es).length=es.length:=by rw[hset,List.length_set]
   push_cast -dsimp [hh,hre]
   rw[hbs]
   refine ⟨by omega,by omega,by rw[hbl];omega,[(1,141,2,zE (zY n i es),c)],[.inl 0],ja rfl (by omega) (by rw[List.length_map,hwl];omega) h2 qX qK,rfl,rfl,?_⟩
   rw[hll,←hwl]
   push_cast -dsimp [zb,za,CLe,ze,show (zE (zY n i es)).length=(zY n i es).length from List.length_map ..]
  | false =>
   have hw:zY n i es=es.take (jf jb zH.name n es)++⟨n,i⟩ :: es.drop (jf jb zH.name n es):=by
    unfold zY
    rw[(h4 hh).2.1]
    exact (h4 hh).2.2 ⟨n,i⟩ rfl
   have hset:zE (zY n i es)=(zE es).take (jf jb zH.name n es)++H0 ⟨n,i⟩ :: (zE es).drop (jf jb zH.name n es):=by rw[hw];simp
   have hsl:(zE (zY n i es)).length=(zE es).length+1:=by rw[hset];simp;omega
   push_cast -dsimp [hh,hre]
   refine YR [1] [0] (y7 (e:=141) (zE es) (H0 ⟨n,i⟩) (jf jb zH.name n es) c qX rfl qK rfl (by omega) (by omega) h1 h2) rfl (by decide) (by decide) (by simp) (by push_cast -dsimp) (by push_cast -dsimp [hre]) (fun r bx' m hp=>?_)
   rw[←hset]at hp
   have hre2:∀ fp fo c,C.reL fp fo (jy 2 (zE (zY n i es)) c)=jy 2 (zE (zY n i es)) c:=fun fp fo c=>qw (qn qK)
   obtain ⟨rfl,c',g1,g2,⟨rfl,rfl⟩ | ⟨rfl,rfl⟩⟩:=hp
   ·push_cast -dsimp [hre2,hre]
    exact ⟨[(1,141,2,zE (zY n i es),c')],[.inl 1],ja rfl (by omega) g1 g2 qX qK,rfl,rfl,by push_cast -dsimp [zb,za,CLe,ze]⟩
   ·have hra:∀ fp fo,C.reL fp fo (List.replicate (c*2) .any)=List.replicate (c*2) .any:=fun fp fo=>qw (by simp[List.all_replicate,C.stayB])
    push_cast -dsimp [hre2,hre,hra]
    exact ⟨[(2,141,2,zE (zY n i es),c')],[.inl 1],ja rfl (by omega) g1 g2 qX qK,rfl,rfl,by push_cast -dsimp [zb,za,CLe,ze]⟩
 ·have he:es = []:=by simpa using he
  have hh:Qa zH.name n es=false:=by rw[he];rfl
  have hr0:jf jb zH.name n es=0:=by rw[he];rfl
  have hset:zY n i es = [⟨n,i⟩]:=by rw[he];rfl
  push_cast -dsimp [hh,hr0]
  refine YR [] [0] (zh0 (e:=141) (H0 ⟨n,i⟩) rfl rfl) rfl (by decide) (by decide) (by simp) (by push_cast -dsimp) (by push_cast -dsimp) (fun r bx' m hp=>?_)
  obtain ⟨rfl,c,g1,g2,rfl,rfl⟩:=hp
  have hre:∀ fp fo,C.reL fp fo (jy 2 [H0 ⟨n,i⟩] c)=jy 2 [H0 ⟨n,i⟩] c:=fun fp fo=>qw (qn (qK (es:=[⟨n,i⟩])))
  push_cast -dsimp [hre]
  exact ⟨[(0,141,2,zE [⟨n,i⟩],c)],[.inl 1],ja rfl (by omega) g1 g2 qX qK,rfl,rfl,by push_cast -dsimp [zb,za,CLe,ze,hset]⟩
 ·have he:es = []:=by simpa using he
  have hh:Qa zH.name n es=false:=by rw[he];rfl
  have hr0:jf jb zH.name n es=0:=by rw[he];rfl
  have hset:zY n i es = [⟨n,i⟩]:=by rw[he];rfl
  push_cast -dsimp [hh,hr0]
  refine YR [0] [0] (y7 (e:=141) [] (H0 ⟨n,i⟩) 0 0 (fun r hr=>by cases hr) rfl (fun r hr=>by cases hr) rfl (by simp) (by simp) (by simp) (by simp)) rfl (by decide) (by decide) (by simp) (by push_cast -dsimp) (by push_cast -dsimp [jy]) (fun r bx' m hp=>?_)
  obtain ⟨rfl,c,g1,g2,hp⟩:=hp
  have hre:∀ fp fo,C.reL fp fo (jy 2 [H0 ⟨n,i⟩] c)=jy 2 [H0 ⟨n,i⟩] c:=fun fp fo=>qw (qn (qK (es:=[⟨n,i⟩])))
  rcases hp with ⟨rfl,rfl⟩ | ⟨rfl,rfl⟩
  ·push_cast -dsimp [hre]
   exact ⟨[(0,141,2,zE [⟨n,i⟩],c)],[.inl 1],ja rfl (Nat.lt_of_lt_of_le (Nat.zero_lt_succ _) g1) g1 g2 qX qK,rfl,rfl,by push_cast -dsimp [zb,za,CLe,ze,hset]⟩
  ·push_cast -dsimp [hre]
   exact ⟨[(1,141,2,zE [⟨n,i⟩],c)],[.inl 1],ja rfl (Nat.lt_of_lt_of_le (Nat.zero_lt_succ _) g1) g1 g2 qX qK,rfl,rfl,by push_cast -dsimp [zb,za,CLe,ze,hset]⟩
end
end
section
open CA CB
open Go.RowKit
section
variable {G:zk}
end
end
section
theorem HL (n:Int) (xs:List zn):zw n xs=(X1 n xs).isSome:=by
 unfold zw X1
 induction xs with
 | nil=>rfl
 | cons y r ih =>
  rw[List.any_cons,List.find?_cons]
  cases h:(y.ino==n) with
  | true=>rfl
  | false=>rw[Bool.false_or,ih]
theorem zh1 {n:Int} {xs:List zn} {x:zn} (h:X1 n xs=some x):x.ino=n/\x∈xs:=by
 unfold X1 at h
 have h1:=List.find?_some h
 exact ⟨by simpa using h1,List.mem_of_find?_eq_some h⟩
theorem y8 (n:Int) (x:zn):∀ xs:List zn,(∀ z∈xs,z.ino≠x.ino)->X1 n (Q5 x xs)=if x.ino=n then some x else X1 n xs
 | [],_=>by
  unfold Q5 X1
  by_cases h:x.ino=n<;>simp[h]
 | y :: r,hn=>by
  have hy:=hn y List.mem_cons_self
  have ih:=y8 n x r fun z hz=>hn z (List.mem_cons_of_mem _ hz)
  unfold X1 at ih ⊢
  unfold Q5
  split
  ·by_cases h:x.ino=n
   ·simp[h]
   ·simp[h,List.find?_cons]
  ·by_cases h:x.ino=n
   ·rw[if_pos h]at ih ⊢
    have hyn:(y.ino==n)=false:=by simp;omega
    rw[List.find?_cons,hyn];exact ih
   ·rw[if_neg h]at ih ⊢
    rw[List.find?_cons,List.find?_cons,ih]
theorem Nk (n m:Int):∀ xs:List zn,X1 n (qN m xs)=if n=m then none else X1 n xs
 | []=>by unfold X1 qN;simp
 | y :: r=>by
  have ih:=Nk n m r
  by_cases hy:y.ino=m
  ·rw[JH hy,ih]
   by_cases h:n=m
   ·rw[if_pos h,if_pos h]
   ·rw[if_neg h,if_neg h]
    have hyn:(y.ino==n)=false:=by simp;omega
    unfold X1
    rw[List.find?_cons,hyn]
  ·rw[JN hy]
   unfold X1 at ih ⊢
   rw[List.find?_cons,List.find?_cons,ih]
   by_cases h:n=m
   ·have hyn:(y.ino==n)=false:=by simp;omega
    simp only[hyn,if_pos h]
   ·simp only[if_neg h]
theorem zkR {n:Int} {xs:List zn}:∀ z∈qN n xs,z.ino≠n:=fun z hz=>by
 unfold qN at hz
 simpa using (List.mem_filter.1 hz).2
theorem vw (n:Int) (x:zn) (xs:List zn):X1 n (jk x xs)=if x.ino=n then some x else X1 n xs:=by
 unfold jk
 rw[y8 n x _ zkR,Nk]
 by_cases h:x.ino=n
 ·rw[if_pos h,if_pos h]
 ·rw[if_neg h,if_neg h,if_neg (fun e=>h e.symm)]
theorem QG (n:Int) (x:zn) (xs:List zn):zw n (jk x xs)=(decide (x.ino=n)||zw n xs):=by
 rw[HL,vw,HL]
 by_cases h:x.ino=n<;>simp[h]
def vr (g:zn->Nat) (xs:List zn):Nat:=(xs.map g).sum
theorem No (g:zn->Nat) {n:Int}:∀ {xs:List zn},zZ xs->vr g xs=vr g (qN n xs)+(match X1 n xs with | some x=>g x | none=>0)
 | [],_=>rfl
 | y :: r,hR=>by
  obtain ⟨h1,h2⟩:=Jn.1 hR
  have ih:=No g (n:=n) h2
  unfold vr at ih ⊢
  by_cases hy:y.ino=n
  ·have hb:zw n r=false:=yi fun z hz=>by have:=h1 z hz;omega
   have hg:X1 n (y :: r)=some y:=by unfold X1;rw[List.find?_cons_of_pos (by simpa using hy)]
   rw[hg,JH hy,Hq hb]
   simp;omega
  ·have hg:X1 n (y :: r)=X1 n r:=by unfold X1;rw[List.find?_cons_of_neg (by simpa using hy)]
   rw[hg,JN hy]
   simp only[List.map_cons,List.sum_cons]
   omega
theorem yM (g:zn->Nat) (x:zn):∀ xs:List zn,vr g (Q5 x xs)=vr g xs+g x
 | []=>by unfold Q5 vr;simp
 | y :: r=>by
  have ih:=yM g x r
  unfold vr at ih ⊢
  unfold Q5
  split
  ·simp;omega
  ·simp only[List.map_cons,List.sum_cons];omega
theorem Z9 (g:zn->Nat) {x:zn} {xs:List zn} (hR:zZ xs):vr g (jk x xs)+(match X1 x.ino xs with | some y=>g y | none=>0)=vr g xs+g x:=by
 unfold jk
 rw[yM,No g (n:=x.ino) hR]
 omega
end
section
def Uv (n:Int) (x:zn):Nat:=(x.es.filter fun e=>decide (e.ino=n)).length
def k8 (n:Int) (xs:List zn):Nat:=vr (Uv n) xs
structure FsI (f:FsV):Prop where
 rises:zZ f.xs
 ino:∀ x∈f.xs,1<=x.ino/\x.ino<f.next
 kind:∀ x∈f.xs,x.kind=1∨x.kind=2∨x.kind=3
 es:∀ x∈f.xs,XQ x.es
 file:∀ x∈f.xs,x.kind≠2->x.es = []
 led:∀ x∈f.xs,∀ e∈x.es,zw e.ino f.xs=true
 links:∀ x∈f.xs,x.links=(k8 x.ino f.xs:Int)
 root:zw 1 f.xs=true
 base:(zf 1 f.xs).kind=2
 bare:k8 1 f.xs=0
theorem zq {n:Int} {xs:List zn} (h:zw n xs=true):X1 n xs=some (zf n xs)/\zf n xs∈xs/\(zf n xs).ino=n:=by
 rw[HL]at h
 obtain ⟨x,hx⟩:=Option.isSome_iff_exists.1 h
 have e:zf n xs=x:=by unfold zf;rw[hx];rfl
 obtain ⟨h1,h2⟩:=zh1 hx
 rw[e]
 exact ⟨hx,h2,h1⟩
theorem Jv {n:Int} {xs:List zn} (h:zw n xs=false):X1 n xs=none/\zf n xs=zaU:=by
 have h1:=kT h
 exact ⟨h1,by unfold zf;rw[h1];rfl⟩
theorem QC (n:Int) (x:zn) (xs:List zn):zf n (jk x xs)=if x.ino=n then x else zf n xs:=by
 unfold zf
 rw[vw]
 split<;>rfl
theorem Jk {x z:zn} {xs:List zn}:z∈jk x xs↔z=x∨(z∈xs/\z.ino≠x.ino):=by
 unfold jk
 rw[kS]
 unfold qN
 simp
theorem JK {x:zn} {xs:List zn} (h:x∈xs):zw x.ino xs=true:=by
 unfold zw
 exact List.any_eq_true.2 ⟨x,h,by simp⟩
theorem vU {α κ:Type} [DecidableEq κ] {o:zld κ} {key:α->κ} (p:α->Bool) (x:α):∀ xs:List α,((X8 o key x xs).filter p).length=(xs.filter p).length+if p x then 1 else 0
 | []=>by unfold X8;cases h:p x<;>simp[h]
 | y :: r=>by
  have ih:=vU (o:=o) (key:=key) p x r
  unfold X8
  split
  ·cases h:p x<;>simp[h,List.filter_cons]
  ·rw[List.filter_cons,List.filter_cons]
   cases h:p y
   ·simpa using ih
   ·simp[ih];omega
theorem Yf {α κ:Type} [DecidableEq κ] {key:α->κ} {n:κ} {xs:List α} {e:α} (h:jM key n xs=some e):key e=n/\e∈xs:=by
 unfold jM at h
 exact ⟨by have:=List.find?_some h;simpa using this,List.mem_of_find?_eq_some h⟩
theorem jh {α κ:Type} [DecidableEq κ] {key:α->κ} {n:κ} {xs:List α}:Qa key n xs=(jM key n xs).isSome:=by
 unfold Qa jM
 induction xs with
 | nil=>rfl
 | cons y r ih =>
  rw[List.any_cons,List.find?_cons]
  cases h:decide (key y=n) with
  | true=>rfl
  | false=>rw[Bool.false_or,ih]
theorem zkJ {n m:Int} {x:zn} {xs:List zn} (hR:zZ xs) (hh:zw n xs=true) (hx:x.ino=n):k8 m (jk x xs)+Uv m (zf n xs)=k8 m xs+Uv m x:=by
 have h:=Z9 (Uv m) (x:=x) hR
 rw[hx,(zq hh).1]at h
 exact h
theorem zdC {m:Int} {x:zn} {xs:List zn} (hR:zZ xs) (hh:zw x.ino xs=false):k8 m (jk x xs)=k8 m xs+Uv m x:=by
 have h:=Z9 (Uv m) (x:=x) hR
 rw[(Jv hh).1]at h
 exact h
theorem zhK {n:Int} {xs:List zn} (h:∀ x∈xs,∀ e∈x.es,e.ino≠n):k8 n xs=0:=by
 unfold k8 vr
 rw[List.sum_eq_zero_iff_forall_eq_nat]
 intro k hk
 obtain ⟨x,hx,rfl⟩:=List.mem_map.1 hk
 unfold Uv
 rw[List.length_eq_zero_iff,List.filter_eq_nil_iff]
 intro e he
 simpa using h x hx e he
theorem Gt {m i:Int} {n:List UInt8} {es:List zH} {x:zn} (hR:XQ es) (h:QV n es=false):Uv m { x with es:=zY n i es }=Uv m { x with es:=es }+if i=m then 1 else 0:=by
 obtain ⟨_,_,_,h4⟩:=ui n hR
 unfold zY Uv
 rw[(h4 h).2.1]
 show ((X8 jb zH.name ⟨n,i⟩ es).filter _).length=_
 rw[vU]
 by_cases hi:i=m<;>simp[hi]
theorem Vj {n:List UInt8} {es:List zH} (h:QV n es=true):jM zH.name n es=some ⟨n,zF n es⟩:=by
 unfold QV at h
 rw[jh]at h
 obtain ⟨e,he⟩:=Option.isSome_iff_exists.1 h
 have h1:=(Yf he).1
 unfold zF
 rw[he]
 cases e with
 | mk a b=>simp at h1 ⊢;exact h1
theorem zac {n:List UInt8} {i:Int} {es:List zH} (h:XQ es):XQ (zY n i es):=VL (x:=(⟨n,i⟩:zH)) h
theorem Z3 {n:List UInt8} {i:Int} {es:List zH} {e:zH} (h:e∈zY n i es):e=⟨n,i⟩∨e∈es:=by
 unfold zY at h
 rcases HK.1 h with h | h
 ·exact .inl h
 ·exact .inr (Gw.1 h).1
end
section
structure ZU (f:FsV) (s:zT):Prop where
 has:zw s.dir f.xs=true
 kind:(zf s.dir f.xs).kind=2
 free:QV s.name (zf s.dir f.xs).es=false
structure zpH (f:FsV) (s:zT):Prop where
 has:zw s.dir f.xs=true
 kind:(zf s.dir f.xs).kind=2
 there:jM zH.name s.name (zf s.dir f.xs).es=some ⟨s.name,s.ino⟩
abbrev jT (d:zn) (es:List zH):zn:={ d with es:=es }
theorem Y4 {xs:List zn} {n:Int} {F:List zH->List zH} (hh:zw n xs=true) {z:zn}:z∈YW n F xs↔z=jT (zf n xs) (F (zf n xs).es)∨(z∈xs/\z.ino≠n):=by
 unfold YW
 rw[Jk]
 show z=jT _ _∨(z∈xs/\z.ino≠(zf n xs).ino)↔_
 rw[(zq hh).2.2]
theorem Q4 {xs:List zn} {n m:Int} {F:List zH->List zH} (hh:zw n xs=true):zw m (YW n F xs)=zw m xs:=by
 unfold YW
 rw[QG]
 show (decide ((zf n xs).ino=m)||zw m xs)=_
 rw[(zq hh).2.2]
 by_cases h:n=m
 ·subst h;rw[hh];simp
 ·simp[h]
theorem zez {xs:List zn} {n m:Int} {F:List zH->List zH} (hh:zw n xs=true):zf m (YW n F xs)=if n=m then jT (zf n xs) (F (zf n xs).es) else zf m xs:=by
 unfold YW
 rw[QC]
 show (if (zf n xs).ino=m then _ else _)=_
 rw[(zq hh).2.2]
theorem zdD {xs:List zn} {n m:Int} {F:List zH->List zH} (hR:zZ xs) (hh:zw n xs=true):k8 m (YW n F xs)+Uv m (zf n xs)=k8 m xs+Uv m (jT (zf n xs) (F (zf n xs).es)):=
 zkJ hR hh (zq hh).2.2
theorem HD {f:FsV} (hf:FsI f):zw f.next f.xs=false/\∀ x∈f.xs,∀ e∈x.es,e.ino≠f.next:=by
 have h1:zw f.next f.xs=false:=by
  rw[Bool.eq_false_iff]
  intro h
  have:=(hf.ino _ (zq h).2.1).2
  rw[(zq h).2.2]at this
  omega
 refine ⟨h1,fun x hx e he hn=>?_⟩
 have:=hf.led x hx e he
 rw[hn,h1]at this
 cases this
theorem xr {f:FsV} (hf:FsI f):1<f.next:=by
 have:=(hf.ino _ (zq hf.root).2.1).2
 rw[(zq hf.root).2.2]at this
 exact this
theorem zkj {f:FsV} (hf:FsI f) {s:zT} (hs:ZU f s) (k:Int) (hk:k=1∨k=2∨k=3) (t:List UInt8):FsI (Uj f s k t):=by
 obtain ⟨n1,n2⟩:=HD hf
 have hd:=(zq hs.has).2.1
 have hR1:zZ (YW s.dir (zY s.name f.next) f.xs):=QM hf.rises
 have hn1:zw f.next (YW s.dir (zY s.name f.next) f.xs)=false:=by rw[Q4 hs.has];exact n1
 have hlt:=xr hf
 have hdn:s.dir≠f.next:=fun e=>by have:=hs.has;rw[e,n1]at this;cases this
 refine ⟨QM hR1,fun x hx=>?_,fun x hx=>?_,fun x hx=>?_,fun x hx hk2=>?_,fun x hx e he=>?_,fun x hx=>?_,?_,?_,?_⟩
 ·rcases Jk.1 hx with rfl | ⟨hx,_⟩
  ·exact ⟨by show 1<=f.next;omega,by show f.next<f.next+1;omega⟩
  ·rcases (Y4 hs.has).1 hx with rfl | ⟨hx,_⟩
   ·have:=hf.ino _ hd
    exact ⟨this.1,by show (zf s.dir f.xs).ino<f.next+1;omega⟩
   ·have:=hf.ino _ hx
    exact ⟨this.1,by show x.ino<f.next+1;omega⟩
 ·rcases Jk.1 hx with rfl | ⟨hx,_⟩
  ·exact hk
  ·rcases (Y4 hs.has).1 hx with rfl | ⟨hx,_⟩
   ·exact .inr (.inl hs.kind)
   ·exact hf.kind _ hx
 ·rcases Jk.1 hx with rfl | ⟨hx,_⟩
  ·exact List.Pairwise.nil
  ·rcases (Y4 hs.has).1 hx with rfl | ⟨hx,_⟩
   ·exact zac (hf.es _ hd)
   ·exact hf.es _ hx
 ·rcases Jk.1 hx with rfl | ⟨hx,_⟩
  ·rfl
  ·rcases (Y4 hs.has).1 hx with rfl | ⟨hx,_⟩
   ·exact absurd hs.kind hk2
   ·exact hf.file _ hx hk2
 ·show zw e.ino (jk _ _)=true
  rw[QG,Q4 hs.has]
  show (decide (f.next=e.ino)||zw e.ino f.xs)=true
  rcases Jk.1 hx with rfl | ⟨hx,_⟩
  ·cases he
  ·rcases (Y4 hs.has).1 hx with rfl | ⟨hx,_⟩
   ·rcases Z3 he with rfl | he
    ·simp
    ·rw[hf.led _ hd e he,Bool.or_true]
   ·rw[hf.led _ hx e he,Bool.or_true]
 ·show x.links=(k8 x.ino (jk _ _):Int)
  rw[zdC hR1 hn1]
  have hc:=zdD (m:=x.ino) (F:=zY s.name f.next) hf.rises hs.has
  have hw:=Gt (m:=x.ino) (i:=f.next) (x:=zf s.dir f.xs) (hf.es _ hd) hs.free
  have hz:Uv x.ino (⟨f.next,k,1,t,if k=2 then s.dir else 0,[]⟩:zn)=0:=rfl
  have hw:Uv x.ino (jT (zf s.dir f.xs) (zY s.name f.next (zf s.dir f.xs).es))=Uv x.ino (zf s.dir f.xs)+if f.next=x.ino then 1 else 0:=hw
  rw[hz]
  rcases Jk.1 hx with rfl | ⟨hx,hxn⟩
  ·have h0:k8 f.next f.xs=0:=zhK n2
   have hw:Uv f.next (jT (zf s.dir f.xs) (zY s.name f.next (zf s.dir f.xs).es))=Uv f.next (zf s.dir f.xs)+if f.next=f.next then 1 else 0:=hw
   rw[if_pos rfl]at hw
   show (1:Int)=((k8 f.next (YW s.dir (zY s.name f.next) f.xs)+0:Nat):Int)
   have hc:k8 f.next (YW s.dir (zY s.name f.next) f.xs)+Uv f.next (zf s.dir f.xs)=k8 f.next f.xs+Uv f.next (jT (zf s.dir f.xs) (zY s.name f.next (zf s.dir f.xs).es)):=hc
   omega
  ·have hxn:x.ino≠f.next:=hxn
   rw[if_neg fun e=>hxn e.symm]at hw
   have hl:x.links=(k8 x.ino f.xs:Int):=by
    rcases (Y4 hs.has).1 hx with rfl | ⟨hx,_⟩
    ·exact hf.links (zf s.dir f.xs) hd
    ·exact hf.links _ hx
   omega
 ·show zw 1 (jk _ _)=true
  rw[QG,Q4 hs.has,hf.root,Bool.or_true]
 ·show (zf 1 (jk _ _)).kind=2
  rw[QC]
  rw[if_neg (show ¬f.next=1 by omega),zez hs.has]
  split
  ·exact hs.kind
  ·exact hf.base
 ·show k8 1 (jk _ _)=0
  rw[zdC hR1 hn1]
  have hc:=zdD (m:=1) (F:=zY s.name f.next) hf.rises hs.has
  have hw:Uv 1 (jT (zf s.dir f.xs) (zY s.name f.next (zf s.dir f.xs).es))=Uv 1 (zf s.dir f.xs)+if f.next=1 then 1 else 0:=Gt (m:=1) (i:=f.next) (x:=zf s.dir f.xs) (hf.es (zf s.dir f.xs) hd) hs.free
  have hz:Uv 1 (⟨f.next,k,1,t,if k=2 then s.dir else 0,[]⟩:zn)=0:=rfl
  have:=hf.bare
  rw[if_neg (show ¬f.next=1 by omega)]at hw
  omega
theorem znS {f:FsV} (hf:FsI f) {s:zT} (hs:ZU f s) (k:Int) (hk:k=1∨k=2∨k=3) (t:List UInt8):FsI (Yr f s k t).1:=by
 unfold Yr
 by_cases h1:may s.name=true
 ·rw[if_pos h1]
  by_cases h2:jU f 1 (if k=1 then (t.length:Int) else 0)=true
  ·rw[if_pos h2];exact zkj hf hs k hk t
  ·rw[if_neg h2];exact hf
 ·rw[if_neg h1];exact hf
end
section
theorem zjp {f:FsV} (hf:FsI f):∀ (ns:List (List UInt8)) (s:zT),(s.ino≠0->zw s.ino f.xs=true)->(atW f.xs ns s).2=0->ns≠[] ->
  zw (atW f.xs ns s).1.dir f.xs=true/\(zf (atW f.xs ns s).1.dir f.xs).kind=2/\(atW f.xs ns s).1.ino=zF (atW f.xs ns s).1.name (zf (atW f.xs ns s).1.dir f.xs).es/\(atW f.xs ns s).1.name∈ns
 | [],s,_,_,h=>absurd rfl h
 | n :: r,s,hs,h0,_=>by
  unfold atW at h0 ⊢
  by_cases h1:s.ino=0
  ·rw[if_pos h1]at h0;cases h0
  rw[if_neg h1]at h0 ⊢
  by_cases h2:(zf s.ino f.xs).kind≠2
  ·rw[if_pos h2]at h0;cases h0
  rw[if_neg h2]at h0 ⊢
  have h2:(zf s.ino f.xs).kind=2:=Classical.not_not.1 h2
  have hg:=zq (hs h1)
  have hnx:zF n (zf s.ino f.xs).es≠0->zw (zF n (zf s.ino f.xs).es) f.xs=true:=fun hne=>by
   have hh:QV n (zf s.ino f.xs).es=true:=by
    unfold QV
    rw[jh]
    cases hq:jM zH.name n (zf s.ino f.xs).es with
    | some e=>rfl
    | none=>unfold zF at hne;rw[hq]at hne;exact absurd rfl hne
   exact hf.led _ hg.2.1 _ (Yf (Vj hh)).2
  cases r with
  | nil =>
   unfold atW
   rw[hg.2.2]
   exact ⟨hs h1,h2,rfl,List.mem_cons_self⟩
  | cons m r =>
   obtain ⟨i1,i2,i3,i4⟩:=zjp hf (m :: r) ⟨(zf s.ino f.xs).ino,n,zF n (zf s.ino f.xs).es⟩ hnx h0 (by simp)
   exact ⟨i1,i2,i3,List.mem_cons_of_mem _ i4⟩
theorem M2 {f:FsV} (hf:FsI f):∀ (ns:List (List UInt8)) (s:zT),(s.ino≠0->zw s.ino f.xs=true)->(atW f.xs ns s).1.ino≠0->zw (atW f.xs ns s).1.ino f.xs=true
 | [],s,hs,h=>hs h
 | n :: r,s,hs,h=>by
  unfold atW at h ⊢
  by_cases h1:s.ino=0
  ·rw[if_pos h1]at h;exact absurd rfl h
  rw[if_neg h1]at h ⊢
  by_cases h2:(zf s.ino f.xs).kind≠2
  ·rw[if_pos h2]at h;exact absurd rfl h
  rw[if_neg h2]at h ⊢
  have hg:=zq (hs h1)
  refine M2 hf r _ (fun hne=>?_) h
  have hne:zF n (zf s.ino f.xs).es≠0:=hne
  have hh:QV n (zf s.ino f.xs).es=true:=by
   unfold QV
   rw[jh]
   cases hq:jM zH.name n (zf s.ino f.xs).es with
   | some e=>rfl
   | none=>unfold zF at hne;rw[hq]at hne;exact absurd rfl hne
  exact hf.led _ hg.2.1 _ (Yf (Vj hh)).2
end
section
structure UQ (w:zS):Prop where
 fs:FsI w.fs
 kept:jt zo5 jP.slot w.kept
 pool:zZ w.pool
 apart:∀ x∈w.pool,zw x.ino w.fs.xs=false/\x.ino<w.fs.next
theorem QA {f:FsV} (hf:FsI f) {n:Int} (h:zw n f.xs=true):n≠0:=fun e=>by
 have:=(hf.ino _ (zq h).2.1).1
 rw[(zq h).2.2]at this
 omega
theorem V6 {f:FsV} (hf:FsI f) {d:Int} (hd:zw d f.xs=true) {n:List UInt8} (h:QV n (zf d f.xs).es=true):zw (zF n (zf d f.xs).es) f.xs=true:=
 hf.led _ (zq hd).2.1 _ (Yf (Vj h)).2
theorem znC {f:FsV} (hf:FsI f) {p:List UInt8} (hp:zJ p=true) (h:(atV f p).2=0) :
  zw (atV f p).1.dir f.xs=true/\(zf (atV f p).1.dir f.xs).kind=2/\(atV f p).1.ino=zF (atV f p).1.name (zf (atV f p).1.dir f.xs).es/\(atV f p).1.name∈zh p:=by
 unfold zJ at hp
 simp only[Bool.and_eq_true,Bool.not_eq_true',decide_eq_false_iff_not]at hp
 unfold atV at h ⊢
 rw[if_pos hp.1]at h ⊢
 exact zjp hf (zh p) ⟨0,[],1⟩ (fun _=>hf.root) h hp.2
theorem VT {f:FsV} (hf:FsI f) {p:List UInt8} (hp:zJ p=true) (h:(isV f p false).2.2=0):ZU f (isV f p false).1:=by
 unfold isV at h ⊢
 simp only at h ⊢
 by_cases h0:(atV f p).2≠0
 ·rw[if_pos h0]at h;exact absurd h h0
 rw[if_neg h0]at h
 have h0:(atV f p).2=0:=Classical.not_not.1 h0
 obtain ⟨a1,a2,a3,_⟩:=znC hf hp h0
 refine ⟨a1,a2,?_⟩
 have hh:zw (atV f p).1.ino f.xs=false:=by
  cases hq:zw (atV f p).1.ino f.xs with
  | false=>rfl
  | true=>rw[hq]at h;simp at h
 rw[Bool.eq_false_iff]
 intro he
 have:=V6 hf a1 he
 rw[←a3,hh]at this
 cases this
theorem zpK {w:zS} (hw:UQ w) {g:FsV} (hg:FsI g) (hn:w.fs.next<=g.next) (hh:∀ x∈w.pool,zw x.ino g.xs=false):UQ { w with fs:=g }:=
 ⟨hg,hw.kept,hw.pool,fun x hx=>⟨hh x hx,by have:=(hw.apart x hx).2;show x.ino<g.next;omega⟩⟩
theorem Xx (f:FsV) (s:zT) (k:Int) (t:List UInt8):(Yr f s k t).1=f∨(Yr f s k t).1=Uj f s k t:=by
 unfold Yr
 by_cases h1:may s.name=true
 ·rw[if_pos h1]
  by_cases h2:jU f 1 (if k=1 then (t.length:Int) else 0)=true
  ·rw[if_pos h2];exact .inr rfl
  ·rw[if_neg h2];exact .inl rfl
 ·rw[if_neg h1];exact .inl rfl
theorem zbZ {w:zS} (hw:UQ w) {p:List UInt8} (hp:zJ p=true) {k:Int} (hk:k=1∨k=2∨k=3) (t:List UInt8):UQ (zP w p k t).1:=by
 unfold zP
 by_cases h:(isV w.fs p false).2.2≠0
 ·rw[if_pos h];exact hw
 rw[if_neg h]
 have hs:=VT hw.fs hp (Classical.not_not.1 h)
 refine zpK hw (znS hw.fs hs k hk t) ?_ ?_
 ·rcases Xx w.fs (isV w.fs p false).1 k t with e | e
  ·rw[e];exact Int.le_refl _
  ·rw[e];show w.fs.next<=w.fs.next+1;omega
 ·intro x hx
  obtain ⟨a1,a2⟩:=hw.apart x hx
  rcases Xx w.fs (isV w.fs p false).1 k t with e | e
  ·rw[e];exact a1
  ·rw[e]
   show zw x.ino (jk _ _)=false
   rw[QG,Q4 hs.has,a1]
   show (decide (w.fs.next=x.ino)||false)=false
   rw[decide_eq_false (by omega)];rfl
end
section
def vW (N:Nat) (x:zn):Prop:=x.es.length<=N/\x.data.length<=5000/\∀ e∈x.es,e.name.length<=300
structure ua (N:Nat) (w:zS):Prop where
 len:w.fs.xs.length<=N
 node:∀ x∈w.fs.xs,vW N x
 klen:w.kept.length<=N
 kdata:∀ k∈w.kept,k.data.length<=5000
 plen:w.pool.length<=N
 pnode:∀ x∈w.pool,vW N x
 next:w.fs.next<=1099511627776+N
 room:w.fs.maxI<=1073741824/\w.fs.maxB<=1073741824/\-1073741824<=w.fs.maxI/\-1073741824<=w.fs.maxB
theorem vW.up {N:Nat} {x:zn} (h:vW N x):vW (N+1) x:=⟨Nat.le_succ_of_le h.1,h.2⟩
theorem ua.up {N:Nat} {w:zS} (h:ua N w):ua (N+1) w:=
 ⟨Nat.le_succ_of_le h.len,fun x hx=>(h.node x hx).up,Nat.le_succ_of_le h.klen,h.kdata,Nat.le_succ_of_le h.plen,fun x hx=>(h.pnode x hx).up,by have:=h.next;omega,h.room⟩
theorem HR {n:List UInt8} (h:may n=true):n.length<=255:=by
 unfold may at h
 simp only[Bool.and_eq_true,decide_eq_true_eq]at h
 exact h.1.1.1.2
theorem zdS (n:List UInt8) (i:Int) (es:List zH):(zY n i es).length<=es.length+1:=by
 unfold zY
 rw[vX]
 have:=VJ (key:=zH.name) n es
 omega
theorem zcd {N:Nat} {x:zn} (h:vW N x) {n:List UInt8} (hn:n.length<=300) (i:Int):vW (N+1) (jT x (zY n i x.es)):=by
 refine ⟨?_,h.2.1,fun e he=>?_⟩
 ·have:=zdS n i x.es
  have:=h.1
  show (zY n i x.es).length<=N+1
  omega
 ·rcases Z3 he with rfl | he
  ·exact hn
  ·exact h.2.2 e he
theorem zhX {N:Nat} {xs:List zn} (h:∀ x∈xs,vW N x) {n:Int} (hh:zw n xs=true):vW N (zf n xs):=h _ (zq hh).2.1
theorem zkH {N:Nat} {xs:List zn} {x:zn} (h:∀ x∈xs,vW N x) (hx:vW N x):∀ z∈jk x xs,vW N z:=fun z hz=>by
 rcases Jk.1 hz with rfl | ⟨hz,_⟩
 ·exact hx
 ·exact h z hz
theorem zhD {x:zn} {xs:List zn} (hR:zZ xs) (hh:zw x.ino xs=true):(jk x xs).length=xs.length:=by rw[←MR hR hh];simp
theorem HT {xs:List zn} {n:Int} {F:List zH->List zH} (hR:zZ xs) (hh:zw n xs=true):(YW n F xs).length=xs.length:=by
 unfold YW
 refine zhD hR ?_
 show zw (zf n xs).ino xs=true
 rw[(zq hh).2.2];exact hh
theorem zi5 {f:FsV} (hf:FsI f) {p:List UInt8} (hp:zJ p=true) (h:(atV f p).2=0):(atV f p).1.name.length<=300:=by
 have h1:=(znC hf hp h).2.2.2
 unfold zJ jN at hp
 simp only[Bool.and_eq_true]at hp
 have:=HR (List.all_eq_true.1 hp.1.2 _ h1)
 omega
theorem zcS {f:FsV} {p:List UInt8} {b:Bool} (h:(isV f p b).2.2=0):(atV f p).2=0:=by
 unfold isV at h
 simp only at h
 by_cases h0:(atV f p).2≠0
 ·rw[if_pos h0]at h;exact h
 ·exact Classical.not_not.1 h0
theorem zoX {N:Nat} {w:zS} (hw:UQ w) (hb:ua N w) {p:List UInt8} (hp:zJ p=true) {k:Int} {t:List UInt8} (ht:t.length<=5000):ua (N+1) (zP w p k t).1:=by
 unfold zP
 by_cases h:(isV w.fs p false).2.2≠0
 ·rw[if_pos h];exact hb.up
 rw[if_neg h]
 have h:=Classical.not_not.1 h
 have hs:=VT hw.fs hp h
 unfold Yr
 by_cases h1:may (isV w.fs p false).1.name=true
 ·rw[if_pos h1]
  by_cases h2:jU w.fs 1 (if k=1 then (t.length:Int) else 0)=true
  ·rw[if_pos h2]
   have hl:=HR h1
   refine ⟨?_,?_,by have:=hb.klen;show w.kept.length<=N+1;omega,hb.kdata,by have:=hb.plen;show w.pool.length<=N+1;omega,fun x hx=>(hb.pnode x hx).up,?_,hb.room⟩
   ·show (jk _ _).length<=N+1
    refine Nat.le_trans zk6 ?_
    rw[HT hw.fs.rises hs.has]
    have:=hb.len;omega
   ·refine zkH (fun z hz=>?_) ⟨Nat.zero_le _,ht,fun e he=>by cases he⟩
    rcases (Y4 hs.has).1 hz with rfl | ⟨hz,_⟩
    ·exact zcd (zhX hb.node hs.has) (by omega) _
    ·exact (hb.node z hz).up
   ·show w.fs.next+1<=_
    have:=hb.next;omega
  ·rw[if_neg h2];exact hb.up
 ·rw[if_neg h1];exact hb.up
end
section
open CA CB
open Go.RowKit
section
variable {G:zk}
theorem Mz (f:FsV):Fun Tryz.prog G 277 [.agg (fsC f)] (.sc (.int .i64 (f.xs.length:Nat))) 0:=by
 refine fon Tryz.func277 ?_;dsimp only[Tryz.f277]
 push_cast -dsimp
 exact dn (by push_cast -dsimp [zb,za,CLe,ze,show (zD f.xs).length=f.xs.length from List.length_map ..])
theorem za8 (f:FsV) (hf:FsS f):Fun Tryz.prog G 278 [.agg (fsC f)] (.sc (.int .i64 (zQ f.xs:Nat))) 0:=by
 have hll:(zD f.xs).length=f.xs.length:=List.length_map ..
 have hb:=hf.bytes
 have h4:=hf.len
 have hb0:zQ []=0:=rfl
 have hmono:∀ i,zQ (f.xs.take i)<=100000000:=fun i=>by
  have h1:=Uh (xs:=f.xs.take i) (n:=10000) fun x hx=>(hf.node x (List.mem_of_mem_take hx)).2.1
  have h2:(f.xs.take i).length<=10000:=by rw[List.length_take];have:=hf.len;omega
  have:(f.xs.take i).length*10000<=10000*10000:=Nat.mul_le_mul_right _ h2
  omega
 refine fon Tryz.func278 ?_;dsimp only[Tryz.f278]
 push_cast -dsimp
 refine loop (fun i:Nat=>⟨[(1,.ptr 0 0),(3,.sc (.int .i64 (zQ (f.xs.take i):Nat))),(7,.sc (.int .i64 (f.xs.length:Nat))),(8,.sc (.int .i64 i))],[fsC f],0,0⟩) (fun i=>i<=f.xs.length) (fun i=>f.xs.length-i) 0 (Nat.zero_le _) ?_ ?_
 ·exact wk (by push_cast -dsimp [zb,za,CLe,ze,hb0,hll,List.take_zero])
 ·intro i h1
  by_cases h:i<f.xs.length
  ·have g1:=qx f.xs i h
   have ht:=kl h
   have hm:=hmono (i+1)
   have hm0:=hmono i
   rw[ht]at hm
   by_cases hk:f.xs[i].kind=1
   ·rw[if_pos hk]at ht hm
    push_cast -dsimp [hll,h,g1,hk]
    repeat refine an ?_
    exact ⟨i+1,h,by omega,wk (by push_cast -dsimp [zb,za,CLe,ze,ht])⟩
   ·rw[if_neg hk]at ht hm
    push_cast -dsimp [hll,h,g1,hk]
    repeat refine an ?_
    exact ⟨i+1,h,by omega,wk (by push_cast -dsimp [zb,za,CLe,ze,ht,Nat.add_zero])⟩
  ·rw[List.take_of_length_le (by omega)]
   push_cast -dsimp [hll,h]
   exact dn
theorem NZ (f:FsV) (hf:FsS f) (n b:Int) (hn:-1000000000<=n/\n<=1000000000) (hb:-1000000000<=b/\b<=1000000000):Fun Tryz.prog G 255 [.agg (fsC f),.sc (.int .i64 n),.sc (.int .i64 b)] (.sc (.bool (jU f n b))) 0:=by
 have h1:=Mz (G:=G) f
 have h2:=za8 (G:=G) f hf
 have h3:=hf.bytes
 have h4:=hf.len
 by_cases c1:(f.xs.length:Int)+n<=f.maxI
 ·have e:jU f n b=decide ((zQ f.xs:Int)+b<=f.maxB):=by unfold jU;rw[decide_eq_true c1,Bool.true_and]
  refine fon Tryz.func255 ?_;dsimp only[Tryz.f255]
  push_cast -dsimp
  refine cl (h1) ?_;push_cast -dsimp [c1]
  repeat refine an ?_
  refine cl (h2) ?_;push_cast -dsimp
  repeat refine an ?_
  exact dn (by push_cast -dsimp [zb,za,CLe,ze,e])
 ·have e:jU f n b=false:=by unfold jU;rw[decide_eq_false c1,Bool.false_and]
  refine fon Tryz.func255 ?_;dsimp only[Tryz.f255]
  push_cast -dsimp
  refine cl (h1) ?_;push_cast -dsimp [c1]
  repeat refine an ?_
  exact dn (by push_cast -dsimp [zb,za,CLe,ze,e])
end
end
section
open CA CB
open Go.RowKit
abbrev Qm (s:zT):List C:=[.sc (.int .i64 s.dir),.str s.name,.sc (.int .i64 s.ino)]
theorem FsS.es {f:FsV} (h:FsS f) {n:Int} (hh:zw n f.xs=true):(zf n f.xs).es.length<=10000:=(h.node _ (zq hh).2.1).1
theorem GI {xs:List (List UInt8)} {k:Nat} (h:k<xs.length):(zB xs)[k]?=some [.str xs[k]]:=by simp[List.getElem?_map,List.getElem?_eq_getElem h]
theorem vB (f:FsV) (hf:FsI f) (hs:FsS f) (p:List UInt8) (hp:p.length<=1000000):Fun Tryz.prog G0 218 [.agg (fsC f),.str p] (.tup [.agg (Qm (atV f p).1),.sc (.int .i64 (atV f p).2)]) 0:=by
 have hpl:=Mg p (by omega)
 have hlen:=hs.len
 have hnl:(zh p).length<=1000000:=by have:=z7 p;omega
 cases hpp:jN p with
 | false =>
  have e:atV f p=(qy,9):=by unfold atV;rw[hpp];rfl
  unfold Jz at hpl
  rw[hpp]at hpl
  refine fon Tryz.func218 ?_;dsimp only[Tryz.f218]
  push_cast -dsimp
  refine cl (hpl) ?_;push_cast -dsimp
  exact dn (by push_cast -dsimp [zb,za,CLe,ze,e,qy])
 | true =>
  have e:atV f p=atW f.xs (zh p) ⟨0,[],1⟩:=by unfold atV;rw[hpp];rfl
  unfold Jz at hpl
  rw[hpp,if_pos rfl]at hpl
  generalize zh p=ns at hpl hnl e
  have hsl:(zB ns).length=ns.length:=List.length_map ..
  refine fon Tryz.func218 ?_;dsimp only[Tryz.f218]
  push_cast -dsimp
  refine cl (hpl) ?_;push_cast -dsimp
  refine loop (fun x:Nat×zT=>⟨[(1,.str p),(2,.ptr 0 0),(4,.ptr 1 0),(8,.ptr 2 0),(24,.own 0 9 1 (zB ns)),(25,.sc (.int .i64 (ns.length:Nat))),(26,.sc (.int .i64 x.1))],[fsC f,[.sc (.int .i64 0),.str [],.sc (.int .i64 0)],Qm x.2],1,0⟩)
   (fun x=>x.1<=ns.length/\atW f.xs ns ⟨0,[],1⟩=atW f.xs (ns.drop x.1) x.2/\(x.2.ino≠0->zw x.2.ino f.xs=true)) (fun x=>ns.length-x.1) (0,⟨0,[],1⟩) ⟨Nat.zero_le _,rfl,fun _=>hf.root⟩ ?_ ?_
  ·exact wks [.inl 0] (by push_cast -dsimp [zb,za,CLe,ze,hsl])
  rintro ⟨k,s⟩ ⟨hk,hat,hin⟩
  simp only at hk hat hin ⊢
  by_cases hlt:k<ns.length
  ·have gs:=GI hlt
   have hdr:ns.drop k=ns[k] :: ns.drop (k+1):=List.drop_eq_getElem_cons hlt
   obtain ⟨nm,hnm⟩:∃ nm,ns[k]=nm:=⟨_,rfl⟩
   rw[hnm]at gs hdr
   have hg:=Yy (G:=G0) f s.ino (by omega) hf.rises
   cases hh:zw s.ino f.xs with
   | false =>
    have h0:s.ino=0:=Classical.byContradiction fun hne=>by rw[hin hne]at hh;cases hh
    have hr:atV f p=(qy,1):=by rw[e,hat,hdr];unfold atW;rw[if_pos h0]
    rw[hh]at hg
    push_cast -dsimp [hlt,gs]
    repeat refine an ?_
    refine cl (hg) ?_;push_cast -dsimp
    exact dn (by push_cast -dsimp [zb,za,CLe,ze,hr,qy])
   | true =>
    have hn0:s.ino≠0:=QA hf hh
    have hgg:=zq hh
    rw[hh]at hg
    by_cases hk2:(zf s.ino f.xs).kind=2
    ·have hfd:=Me (G:=G0) (zf s.ino f.xs).es nm (by have:=hs.es hh;omega) (hf.es _ hgg.2.1)
     have hnx:atW f.xs ns ⟨0,[],1⟩=atW f.xs (ns.drop (k+1)) ⟨(zf s.ino f.xs).ino,nm,zF nm (zf s.ino f.xs).es⟩:=by
      rw[hat,hdr]
      conv=>lhs;unfold atW
      rw[if_neg hn0,if_neg (by simp[hk2])]
     have hin2:zF nm (zf s.ino f.xs).es≠0->zw (zF nm (zf s.ino f.xs).es) f.xs=true:=fun hne=>by
      refine V6 hf hh ?_
      unfold QV
      rw[jh]
      cases hq:jM zH.name nm (zf s.ino f.xs).es with
      | some e=>rfl
      | none=>unfold zF at hne;rw[hq]at hne;exact absurd rfl hne
     push_cast -dsimp [hlt,gs]
     repeat refine an ?_
     refine cl (hg) ?_;push_cast -dsimp [hk2]
     refine cl (hfd) ?_;push_cast -dsimp
     repeat refine an ?_
     exact ⟨(k+1,⟨(zf s.ino f.xs).ino,nm,zF nm (zf s.ino f.xs).es⟩),⟨hlt,hnx,hin2⟩,by simp only;omega,wks [.inl 0]⟩
    ·have hr:atV f p=(qy,3):=by rw[e,hat,hdr];unfold atW;rw[if_neg hn0,if_pos hk2]
     push_cast -dsimp [hlt,gs]
     repeat refine an ?_
     refine cl (hg) ?_;push_cast -dsimp [hk2]
     exact dn (by push_cast -dsimp [zb,za,CLe,ze,hr,qy])
  ·have hr:atV f p=(s,0):=by rw[e,hat,List.drop_of_length_le (by omega)];unfold atW;rfl
   push_cast -dsimp [hlt]
   exact dn (by push_cast -dsimp [zb,za,CLe,ze,hr])
end
section
open CA CB
open Go.RowKit
abbrev zlX (f:FsV):Prop:=0<=f.next/\f.next<=4000000000000000000
theorem xV {f:FsV} (hf:FsI f):f.xs≠[]:=fun h=>by have:=hf.root;rw[h]at this;cases this
theorem zcN {f:FsV} (hf:FsI f) {n:Int} (hh:zw n f.xs=true):XQ (zf n f.xs).es:=hf.es _ (zq hh).2.1
theorem Fun.argsLe {P:Program} {G:zk} {f:FuncId} {args args':List C} {r:C} {n:Nat} (h:Fun P G f args r n) (ha:∀ R vs,zm R zu args' vs->zm R zu args vs):Fun P G f args' r n:=
 ⟨h.1,fun R vs hg hv=>h.2 R vs hg (ha R vs hv)⟩
theorem yZ {R:Env} {L:Loc} {k:Nat} {v:Value} (h:Rep R L (.sc (.slice none 0 0)) v):Rep R L (.sl k []) v:=by
 rw[zj]at h
 subst h
 unfold Rep
 exact ⟨none,0,rfl,Nat.le_refl _,Nat.zero_le _,.inl rfl⟩
theorem zkf {G:zk} (f:FsV) (x:zn) (hx:x.es = []) (hl:f.xs.length<=90000) (hR:zZ f.xs) :
  Fun Tryz.prog G 258 [.agg (fsC f),.agg [.sc (.int .i64 x.ino),.sc (.int .i64 x.kind),.sc (.int .i64 x.links),.str x.data,.sc (.int .i64 x.parent),.sc (.slice none 0 0)]] (.agg [.sc (.int .i64 f.maxI),.sc (.int .i64 f.maxB),.sc (.int .i64 f.next),.own 0 96 6 (zD (jk x f.xs))]) 1:=by
 refine (zbT f x hl hR).argsLe fun R vs h=>?_
 obtain ⟨v1,us1,rfl,h1,h⟩:=zd.1 h
 obtain ⟨v2,us2,rfl,h2,h⟩:=zd.1 h
 refine zd.2 ⟨_,_,rfl,h1,zd.2 ⟨_,_,rfl,?_,h⟩⟩
 obtain ⟨ws,rfl,hw⟩:=jd.1 h2
 obtain ⟨w1,t1,e1,g1,hw⟩:=zd.1 hw
 obtain ⟨w2,t2,e2,g2,hw⟩:=zd.1 hw
 obtain ⟨w3,t3,e3,g3,hw⟩:=zd.1 hw
 obtain ⟨w4,t4,e4,g4,hw⟩:=zd.1 hw
 obtain ⟨w5,t5,e5,g5,hw⟩:=zd.1 hw
 obtain ⟨w6,t6,e6,g6,hw⟩:=zd.1 hw
 refine jd.2 ⟨ws,rfl,?_⟩
 have g6':Rep R zu (.sl 2 (zE x.es)) w6:=by rw[hx];exact yZ g6
 rw[e1,e2,e3,e4,e5,e6]
 exact zd.2 ⟨_,_,rfl,g1,zd.2 ⟨_,_,rfl,g2,zd.2 ⟨_,_,rfl,g3,zd.2 ⟨_,_,rfl,g4,zd.2 ⟨_,_,rfl,g5,zd.2 ⟨_,_,rfl,g6',hw⟩⟩⟩⟩⟩⟩
theorem uw (f:FsV) (hf:FsI f) (hs:FsS f) (hn:zlX f) (s:zT) (hsp:ZU f s) (hnl:s.name.length<=100000) (k:Int) (t:List UInt8) (ht:t.length<=100000) :
  Fun Tryz.prog G0 225 [.agg (fsC f),.agg (Qm s),.sc (.int .i64 k),.str t] (.tup [.agg (fsC (Yr f s k t).1),.sc (.int .i64 (Yr f s k t).2)]) 0:=by
 have hm:=xe s.name (by omega)
 have hlen:=hs.len
 cases hmay:may s.name with
 | false =>
  have e:Yr f s k t=(f,9):=by unfold Yr;rw[hmay];rfl
  rw[hmay]at hm
  by_cases hk:k=1
  ·have hk':=eq_true hk
   refine fof (fun j=>if j=14 then [false,false,false,false,false,true] else []) Tryz.func225 ?_;dsimp only[Tryz.f225]
   push_cast -dsimp [hk']
   refine cl (hm) ?_;push_cast -dsimp
   exact dn (by push_cast -dsimp [zb,za,CLe,ze,e])
  ·have hk':=eq_false hk
   refine fof (fun j=>if j=14 then [false,false,false,false,false,true] else []) Tryz.func225 ?_;dsimp only[Tryz.f225]
   push_cast -dsimp [hk']
   refine cl (hm) ?_;push_cast -dsimp
   exact dn (by push_cast -dsimp [zb,za,CLe,ze,e])
 | true =>
  rw[hmay]at hm
  have key:∀ b:Int,(if k=1 then (t.length:Int) else 0)=b->jU f 1 b=false->Yr f s k t=(f,8):=fun b hb hr=>by unfold Yr;rw[hmay,if_pos rfl,hb,hr];rfl
  have key2:∀ b:Int,(if k=1 then (t.length:Int) else 0)=b->jU f 1 b=true->Yr f s k t=(Uj f s k t,0):=fun b hb hr=>by unfold Yr;rw[hmay,if_pos rfl,hb,hr];rfl
  have hg:=Yy (G:=G0) f s.dir (by omega) hf.rises
  rw[hsp.has]at hg
  have htk:=zg5 (G:=G0) f (by omega) (xV hf) (by have:=hn.1;omega) (by have:=hn.2;omega)
  have hes:=hs.es hsp.has
  have hw:=zdv (G:=G0) (zf s.dir f.xs).es s.name f.next (by omega) (zcN hf hsp.has)
  have hd1:=zbT (G:=G0) ⟨f.maxI,f.maxB,f.next+1,f.xs⟩ (jT (zf s.dir f.xs) (zY s.name f.next (zf s.dir f.xs).es)) (by simp only;omega) hf.rises
  have hdl:(YW s.dir (zY s.name f.next) f.xs).length=f.xs.length:=HT hf.rises hsp.has
  have hd2:=fun pr:Int=>zkf (G:=G0) ⟨f.maxI,f.maxB,f.next+1,YW s.dir (zY s.name f.next) f.xs⟩ ⟨f.next,k,1,t,pr,[]⟩ rfl (by simp only;omega) (QM hf.rises)
  have hx0:k=2->Uj f s k t=⟨f.maxI,f.maxB,f.next+1,jk ⟨f.next,k,1,t,s.dir,[]⟩ (YW s.dir (zY s.name f.next) f.xs)⟩:=fun h=>by unfold Uj;rw[if_pos h]
  have hx1:k≠2->Uj f s k t=⟨f.maxI,f.maxB,f.next+1,jk ⟨f.next,k,1,t,0,[]⟩ (YW s.dir (zY s.name f.next) f.xs)⟩:=fun h=>by unfold Uj;rw[if_neg h]
  unfold YW at hd2 hx0 hx1
  by_cases hk:k=1
  ·have hk':=eq_true hk
   have hk2:(k=2)=False:=eq_false (by omega)
   have hr:=NZ (G:=G0) f hs 1 t.length (by omega) (by omega)
   cases hrm:jU f 1 t.length with
   | false =>
    have e:=key _ (if_pos hk) hrm
    rw[hrm]at hr
    refine fof (fun j=>if j=14 then [false,false,false,false,false,true] else []) Tryz.func225 ?_;dsimp only[Tryz.f225]
    push_cast -dsimp [hk']
    refine cl (hm) ?_;push_cast -dsimp
    refine cl (hr) ?_;push_cast -dsimp
    exact dn (by push_cast -dsimp [zb,za,CLe,ze,e])
   | true =>
    have e:=key2 _ (if_pos hk) hrm
    have ex:=hx1 (by omega)
    rw[hrm]at hr
    refine fof (fun j=>if j=14 then [false,false,false,false,false,true] else []) Tryz.func225 ?_;dsimp only[Tryz.f225]
    push_cast -dsimp [hk']
    refine cl (hm) ?_;push_cast -dsimp
    refine cl (hr) ?_;push_cast -dsimp
    refine cl (hg) ?_;push_cast -dsimp
    refine cl (htk) ?_;push_cast -dsimp [hk2]
    refine cl (hw) ?_;push_cast -dsimp
    refine cl (hd1) ?_;push_cast -dsimp
    refine cl (hd2 0) ?_;push_cast -dsimp
    exact dn (by push_cast -dsimp [zb,za,CLe,ze,e,ex])
  ·have hk':=eq_false hk
   have hr:=NZ (G:=G0) f hs 1 0 (by omega) (by omega)
   cases hrm:jU f 1 0 with
   | false =>
    have e:=key _ (if_neg hk) hrm
    rw[hrm]at hr
    refine fof (fun j=>if j=14 then [false,false,false,false,false,true] else []) Tryz.func225 ?_;dsimp only[Tryz.f225]
    push_cast -dsimp [hk']
    refine cl (hm) ?_;push_cast -dsimp
    refine cl (hr) ?_;push_cast -dsimp
    exact dn (by push_cast -dsimp [zb,za,CLe,ze,e])
   | true =>
    have e:=key2 _ (if_neg hk) hrm
    rw[hrm]at hr
    by_cases hk2:k=2
    ·have ex:=hx0 hk2
     have hk2':=eq_true hk2
     refine fof (fun j=>if j=14 then [false,false,false,false,false,true] else []) Tryz.func225 ?_;dsimp only[Tryz.f225]
     push_cast -dsimp [hk']
     refine cl (hm) ?_;push_cast -dsimp
     refine cl (hr) ?_;push_cast -dsimp
     refine cl (hg) ?_;push_cast -dsimp
     refine cl (htk) ?_;push_cast -dsimp [hk2']
     refine cl (hw) ?_;push_cast -dsimp
     refine cl (hd1) ?_;push_cast -dsimp
     refine cl (hd2 s.dir) ?_;push_cast -dsimp
     exact dn (by push_cast -dsimp [zb,za,CLe,ze,e,ex])
    ·have ex:=hx1 hk2
     have hk2':=eq_false hk2
     refine fof (fun j=>if j=14 then [false,false,false,false,false,true] else []) Tryz.func225 ?_;dsimp only[Tryz.f225]
     push_cast -dsimp [hk']
     refine cl (hm) ?_;push_cast -dsimp
     refine cl (hr) ?_;push_cast -dsimp
     refine cl (hg) ?_;push_cast -dsimp
     refine cl (htk) ?_;push_cast -dsimp [hk2']
     refine cl (hw) ?_;push_cast -dsimp
     refine cl (hd1) ?_;push_cast -dsimp
     refine cl (hd2 0) ?_;push_cast -dsimp
     exact dn (by push_cast -dsimp [zb,za,CLe,ze,e,ex])
end
section
open CA CB
open Go.RowKit
end
section
open CA CB
open Go.RowKit
end
section
open Go.RowKit
section
variable {G:zk}
end
end
section
open CA CB
open Go.RowKit
abbrev zj9 (k:jP):List C:=[.sc (.int .i64 k.slot),.sc (.int .i64 k.ino),.sc (.bool k.content),.str k.data]
abbrev Je (ks:List jP):List (List C):=ks.map zj9
theorem Jh (ks:List jP) (i:Nat) (h:i<ks.length):(Je ks)[i]?=some (zj9 ks[i]):=by simp[List.getElem?_map,List.getElem?_eq_getElem h]
abbrev UH (w:zS):List C:=[.sc (.int .i64 w.fs.maxI),.sc (.int .i64 w.fs.maxB),.sc (.int .i64 w.fs.next),.sl 6 (zD w.fs.xs),.sl 4 (Je w.kept),.sl 6 (zD w.pool)]
abbrev ZZ (w:zS):C:=.agg (UH w)
section
variable {G:zk}
end
end
section
open Go.RowKit Go.ChangeMaps Go.ChangeShapes Go.WideShapes Go.Deep Go.Joins
section
variable {H:Type} {enc:TypeId×Value->H} {P:Program} {W:World}
theorem qJ.two {t:TypeId} {f1 f2:Field} {k1 k2:Nat} {Q1 Q2:List C->Prop} (hs:P.underlying t=some (.struct #[f1,f2])) (h1:qJ enc P W f1.type k1 Q1) (h2:qJ enc P W f2.type k2 Q2)
  (e1:f1.offset=0) (e2:P.cellsOf f1.type=k1) (e3:f2.offset=k1) (e4:P.cellsOf f2.type=k2) (e5:P.cellsOf t=k1+k2):qJ enc P W t (k1+k2) fun row=>∃ a b,row=a++b/\Q1 a/\Q2 b:=fun fuel cs x hx=>by
 obtain ⟨ys,n',hn',hy,hlen,hyl,hf⟩:=DataW.trod_struct hs hx
 rw[e5]at hlen
 have g1:=hf 0 f1 rfl
 have g2:=hf 1 f2 rfl
 have hy2:ys.length=2:=by simpa using hyl
 rw[e1,e2,List.drop_zero,List.getElem?_eq_getElem (by omega)]at g1
 rw[e3,e4,List.getElem?_eq_getElem (by omega)]at g2
 obtain ⟨a,qa,la,la',ra⟩:=h1 _ _ _ g1
 obtain ⟨b,qb,lb,lb',rb⟩:=h2 _ _ _ g2
 refine ⟨a++b,⟨a,b,rfl,qa,qb⟩,by rw[List.length_append,la,lb],hlen,fun j c v h3 h4=>?_⟩
 rcases Nat.lt_or_ge j k1 with hj | hj
 ·rw[List.getElem?_append_left (by omega)]at h3
  exact ra j c v h3 (by rw[List.getElem?_take_of_lt hj];exact h4)
 ·rw[List.getElem?_append_right (by omega),la]at h3
  have hjl:=(List.getElem?_eq_some_iff.1 h3).1
  refine rb (j-k1) c v h3 ?_
  rw[List.getElem?_take_of_lt (by omega),List.getElem?_drop,show k1+(j-k1)=j by omega];exact h4
theorem zgS:qJ enc Tryz.prog W 84 4 fun row=>∃ o:jP,row=zj9 o/\o.data.length<=maxLen:=fun fuel cs x hx=>by
 obtain ⟨row,⟨hl,hq⟩,h1,h2,h3⟩:=qJ.struct (W:=W) (enc:=enc) (Qs:=fun j c=>match j with | 0=>∃ n,c = .sc (.int .i64 n)/\(Lit.int .i64 n).wf=true | 1=>∃ n,c = .sc (.int .i64 n)/\(Lit.int .i64 n).wf=true | 2=>∃ b,c = .sc (.bool b) | 3=>∃ l:List UInt8,c = .str l/\l.length<=maxLen | _=>True) Tryz.underlying84 (by kernel_rfl) (by kernel_rfl) (fun j f hj=>by
  match j,hj with
  | 0,hj=>cases hj;exact Opn.int Tryz.underlying3
  | 1,hj=>cases hj;exact Opn.int Tryz.underlying3
  | 2,hj=>cases hj;exact Opn.bool Tryz.underlying4
  | 3,hj=>cases hj;exact Opn.str Tryz.underlying9
  | j+4,hj=>simp at hj) fuel cs x hx
 match row,h1,hq,h3 with
 | [c0,c1,c2,c3],_,hq,h3 =>
  obtain ⟨a,rfl,_⟩:=hq 0 c0 rfl
  obtain ⟨b,rfl,_⟩:=hq 1 c1 rfl
  obtain ⟨c,rfl⟩:=hq 2 c2 rfl
  obtain ⟨d,rfl,hd⟩:=hq 3 c3 rfl
  exact ⟨_,⟨⟨a,b,c,d⟩,rfl,hd⟩,rfl,h2,h3⟩
theorem zbE:Opn enc Tryz.prog W 25 fun c=>∃ xs:List jP,c = .sl 4 (Je xs)/\xs.length<=maxLen/\∀ x∈xs,x.data.length<=maxLen:=fun fuel cs x hx=>by
 obtain ⟨v,c,rfl,⟨rows,rfl,hl,hr⟩,h1,h2⟩:=Opn.slice (W:=W) (enc:=enc) Tryz.underlying25 (show Tryz.prog.cellsOf 84=4 by kernel_rfl) (by decide) zgS fuel cs x hx
 obtain ⟨xs,rfl,hq⟩:=HE hr
 exact ⟨v,_,rfl,⟨xs,rfl,by simpa using hl,hq⟩,h1,h2⟩
theorem zbt:qJ enc Tryz.prog W 27 2 fun row=>∃ (ks:List jP) (pool:List zn),row = [.sl 4 (Je ks),.sl 6 (zD pool)]/\ks.length<=maxLen/\pool.length<=maxLen:=fun fuel cs x hx=>by
 obtain ⟨row,⟨hl,hq⟩,h1,h2,h3⟩:=qJ.struct (W:=W) (enc:=enc) (Qs:=fun j c=>match j with | 0=>∃ xs:List jP,c = .sl 4 (Je xs)/\xs.length<=maxLen/\∀ x∈xs,x.data.length<=maxLen | 1=>∃ xs:List zn,c = .sl 6 (zD xs)/\xs.length<=maxLen/\∀ x∈xs,zcq x | _=>True) Tryz.underlying27 (by kernel_rfl) (by kernel_rfl) (fun j f hj=>by
  match j,hj with
  | 0,hj=>cases hj;exact zbE
  | 1,hj=>cases hj;exact yG
  | j+2,hj=>simp at hj) fuel cs x hx
 match row,h1,hq,h3 with
 | [c0,c1],_,hq,h3 =>
  obtain ⟨a,rfl,ha,_⟩:=hq 0 c0 rfl
  obtain ⟨b,rfl,hb,_⟩:=hq 1 c1 rfl
  exact ⟨_,⟨a,b,rfl,ha,hb⟩,rfl,h2,h3⟩
theorem zck:qJ enc Tryz.prog W 29 6 fun row=>∃ w:zS,row=UH w/\w.fs.xs.length<=maxLen:=fun fuel cs x hx=>by
 obtain ⟨row,⟨a,b,rfl,⟨f,rfl,hf,_⟩,⟨ks,pool,rfl,_⟩⟩,h1,h2,h3⟩:=qJ.two (W:=W) (enc:=enc) Tryz.underlying29 zoG zbt rfl (by kernel_rfl) rfl (by kernel_rfl) (by kernel_rfl) fuel cs x hx
 exact ⟨_,⟨⟨f,ks,pool⟩,rfl,hf⟩,h1,h2,h3⟩
end
end
section
open CA CB
open Go.RowKit
section
variable {G:zk}
end
end
section
open CA CB
open Go.RowKit
section
variable {G:zk}
end
end
section
open CA CB
open Go.RowKit
section
variable {G:zk}
end
end
section
open CA CB
open Go.RowKit
end
section
open CA CB
open Go.RowKit
end
section
open CA CB
open Go.RowKit
theorem zm1 {f:FsV} (hf:FsI f) (p:List UInt8):(atV f p).1.ino≠0->zw (atV f p).1.ino f.xs=true:=by
 unfold atV
 split
 ·exact M2 hf (zh p) ⟨0,[],1⟩ fun _=>hf.root
 ·intro h;exact absurd rfl h
theorem zjJ {f:FsV} (hf:FsI f) (p:List UInt8):zw (atV f p).1.ino f.xs = !decide ((atV f p).1.ino=0):=by
 by_cases h:(atV f p).1.ino=0
 ·rw[decide_eq_true h]
  cases hh:zw (atV f p).1.ino f.xs with
  | false=>rfl
  | true=>exact absurd h (QA hf hh)
 ·rw[zm1 hf p h,decide_eq_false h];rfl
theorem zh2 (f:FsV) (hf:FsI f) (hs:FsS f) (p:List UInt8) (hp:p.length<=1000000):Fun Tryz.prog G0 224 [.agg (fsC f),.str p] (.tup [.agg (Qm (isV f p false).1),.sc (.int .i64 (isV f p false).2.2)]) 0:=by
 have h1:=vB f hf hs p hp
 have hi:=zjJ hf p
 have e1:(isV f p false).1=(atV f p).1:=rfl
 by_cases h0:(atV f p).2=0
 ·have h0':=eq_true h0
  by_cases hz:(atV f p).1.ino=0
  ·have hz':=eq_true hz
   rw[decide_eq_true hz]at hi
   have e3:(isV f p false).2.2=0:=by unfold isV;simp[h0,hi]
   refine fon Tryz.func224 ?_;dsimp only[Tryz.f224]
   push_cast -dsimp
   refine cl (h1) ?_;push_cast -dsimp [h0',hz']
   exact dn (by push_cast -dsimp [zb,za,CLe,ze,e1,e3])
  ·have hz':=eq_false hz
   rw[decide_eq_false hz]at hi
   have e3:(isV f p false).2.2=2:=by unfold isV;simp[h0,hi]
   refine fon Tryz.func224 ?_;dsimp only[Tryz.f224]
   push_cast -dsimp
   refine cl (h1) ?_;push_cast -dsimp [h0',hz']
   exact dn (by push_cast -dsimp [zb,za,CLe,ze,e1,e3])
 ·have h0':=eq_false h0
  have e3:(isV f p false).2.2=(atV f p).2:=by unfold isV;simp[h0]
  refine fon Tryz.func224 ?_;dsimp only[Tryz.f224]
  push_cast -dsimp
  refine cl (h1) ?_;push_cast -dsimp [h0']
  exact dn (by push_cast -dsimp [zb,za,CLe,ze,e1,e3])
structure zfH (w:zS):Prop where
 fs:FsS w.fs
 next:zlX w.fs
 kept:w.kept.length<=10000
 pool:w.pool.length<=10000
theorem zh7 (w:zS) (hw:UQ w) (hs:zfH w) (p:List UInt8) (hp:p.length<=1000000) (hpl:zJ p=true) (k:Int) (t:List UInt8) (ht:t.length<=10000):Fun Tryz.prog G0 187 [ZZ w,.str p,.sc (.int .i64 k),.str t] (.tup [ZZ (zP w p k t).1,.sc (.int .i64 (zP w p k t).2)]) 0:=by
 have h1:=zh2 w.fs hw.fs hs.fs p hp
 by_cases h0:(isV w.fs p false).2.2=0
 ·have h0':=eq_true h0
  have hfr:=VT hw.fs hpl h0
  have hln:=zi5 hw.fs hpl (zcS h0)
  have hln:(isV w.fs p false).1.name.length<=300:=hln
  have hc:=uw w.fs hw.fs hs.fs hs.next (isV w.fs p false).1 hfr (by omega) k t (by omega)
  have e:zP w p k t=({ w with fs:=(Yr w.fs (isV w.fs p false).1 k t).1 },(Yr w.fs (isV w.fs p false).1 k t).2):=by unfold zP;rw[if_neg (by simp[h0])]
  refine fon Tryz.func187 ?_;dsimp only[Tryz.f187]
  push_cast -dsimp
  refine cl (h1) ?_;push_cast -dsimp [h0']
  refine cl (hc) ?_;push_cast -dsimp
  exact dn (by push_cast -dsimp [zb,za,CLe,ze,e])
 ·have h0':=eq_false h0
  have e:zP w p k t=(w,(isV w.fs p false).2.2):=by unfold zP;rw[if_pos h0]
  refine fon Tryz.func187 ?_;dsimp only[Tryz.f187]
  push_cast -dsimp
  refine cl (h1) ?_;push_cast -dsimp [h0']
  exact dn (by push_cast -dsimp [zb,za,CLe,ze,e])
end
section
open CA CB
open Go.RowKit
end
section
open CA CB
open Go.RowKit
theorem zcg (w:zS) (hw:UQ w) (hs:zfH w) (o:OpV) (ho:zbj o) (pa:zJ o.a=true):Fun Tryz.prog G0 186 [ZZ w,.agg (opL o)] (.tup [ZZ (zP w o.a 2 []).1,.sc (.int .i64 (zP w o.a 2 []).2)]) 0:=by
 have h:=zh7 w hw hs o.a ho.1 pa 2 [] (by simp)
 unfold opL
 refine fon Tryz.func186 ?_;dsimp only[Tryz.f186]
 push_cast -dsimp
 refine cl (h) ?_;push_cast -dsimp
 exact dn
end
section
open Go.RowKit
section
variable {G:zk}
abbrev zmI:List C:=[.clo (.func 186) [] [],.clo (.func 188) [] [],.clo (.func 189) [] [],.clo (.func 190) [] [],.clo (.func 191) [] [],.clo (.func 192) [] [],.clo (.func 193) [] [],.clo (.func 197) [] [],.clo (.func 200) [] [],.clo (.func 201) [] []]
theorem zbM:Fun Tryz.prog G 160 [] (.mo 0 196 (.int .i64 [1,2,3,4,5,6,7,8,9,10]) zmI) 1:=by
 refine fon Tryz.func160 ?_;dsimp only[Tryz.f160]
 push_cast -dsimp [UG,Uw,Option.map_none,List.nil_append,List.cons_append,reduceIte,Int.reduceEq]
 exact ⟨[.inl 0],rfl,rfl,by push_cast -dsimp [zb,za,CLe,ze]⟩
end
end
section
open CA CB
open Go.RowKit
theorem Fun.g0 {P:Program} {G':zk} {f:FuncId} {args:List C} {r:C} {n:Nat} (h:Fun P G0 f args r n):Fun P G' f args r n:=⟨h.1,fun R vs hg hv=>h.2 R vs (xf R) hv⟩
end
section
open Go.RowKit
section
variable {G:zk}
theorem NI (o:OpV):Fun Tryz.prog G 110 [.agg (opL o)] (.sc (.bool (decide (o.kind=3∨o.kind=7)))) 0:=by
 unfold opL
 by_cases h:o.kind=3
 ·have h':=eq_true h
  refine fon Tryz.func110 ?_;dsimp only[Tryz.f110]
  push_cast -dsimp [h']
  exact dn (by push_cast -dsimp [zb,za,CLe,ze,h',true_or,decide_true])
 ·have h':=eq_false h
  refine fon Tryz.func110 ?_;dsimp only[Tryz.f110]
  push_cast -dsimp [h']
  exact dn (by push_cast -dsimp [zb,za,CLe,ze,h',false_or])
end
end
section
open Go.RowKit
abbrev zkV (d:zr):List C:=[.sc (.int .i64 d.w.fs.maxI),.sc (.int .i64 d.w.fs.maxB),.sc (.int .i64 d.w.fs.next),.sl 6 (zD d.w.fs.xs),.sl 4 (Je d.w.kept),.sl 6 (zD d.w.pool),.sl 5 (d.ops.map opL),.sl 1 (zB d.diags),.sc (.int .i64 d.status),.sc (.int .i64 d.slot)]
abbrev Vo (d:zr):C:=.agg (zkV d)
section
variable {G:zk}
end
end
section
open CA CB
open Go.RowKit
theorem uz {α κ:Type} [DecidableEq κ] {key:α->κ} {n:κ} {xs:List α} {i:Nat} (h:i<xs.length) (h0:Qa key n (xs.take i)=false) :
  (key xs[i]=n->jM key n xs=some xs[i])/\(key xs[i]≠n->Qa key n (xs.take (i+1))=false):=by
 have e:xs=xs.take i++xs[i] :: xs.drop (i+1):=by rw[←List.drop_eq_getElem_cons h,List.take_append_drop]
 refine ⟨fun hk=>?_,fun hk=>?_⟩
 ·have q:jM key n xs=jM key n (xs.take i++xs[i] :: xs.drop (i+1)):=congrArg _ e
  rw[q]
  unfold jM
  unfold Qa at h0
  rw[List.any_eq_false]at h0
  rw[List.find?_append,List.find?_eq_none.2 fun x hx=>h0 x hx,Option.none_or,List.find?_cons,decide_eq_true hk]
 ·unfold Qa at h0 ⊢
  rw[List.take_add_one,List.getElem?_eq_getElem h,List.any_append,h0]
  simp[hk]
theorem zhp {α κ:Type} [DecidableEq κ] {key:α->κ} {n:κ} {xs:List α} (h0:Qa key n xs=false):jM key n xs=none:=by
 rw[jh]at h0
 cases h:jM key n xs with
 | none=>rfl
 | some x=>rw[h]at h0;cases h0
theorem zax {α κ:Type} [DecidableEq κ] {key:α->κ} {n:κ} {xs:List α} {i:Nat} (h:i<xs.length) :
  JU key n (xs.take (i+1))=if key xs[i]=n then JU key n (xs.take i) else JU key n (xs.take i)++[xs[i]]:=by
 unfold JU
 rw[List.take_add_one,List.getElem?_eq_getElem h,List.filter_append]
 by_cases hk:key xs[i]=n<;>simp[hk]
theorem zgV (a b:List UInt8):(Op.bytesLess a b||decide (a=b)) = !Op.bytesLess b a:=by
 cases h:Op.bytesLess b a with
 | true =>
  have h1:Op.bytesLess a b=false:=jb.asym h
  have h2:a≠b:=fun e=>by rw[e,Xb]at h;cases h
  rw[h1,decide_eq_false h2];rfl
 | false =>
  cases h1:Op.bytesLess a b with
  | true=>rfl
  | false=>rw[decide_eq_true (Ut h1 h)];rfl
section
variable {G:zk}
theorem zcI (es:List zH) (n:List UInt8) (hl:es.length<=100000):Fun Tryz.prog G 148 [.sl 2 (zE es),.str n] (.tup [.sc (.int .i64 (zF n es)),.sc (.bool (QV n es))]) 0:=by
 have hll:(zE es).length=es.length:=List.length_map ..
 refine fon Tryz.func148 ?_;dsimp only[Tryz.f148]
 push_cast -dsimp
 refine loop (fun i:Nat=>⟨[(0,.sl 2 (zE es)),(1,.str n),(6,.sc (.int .i64 i))],[],0,0⟩) (fun i=>i<=es.length/\Qa zH.name n (es.take i)=false) (fun i=>es.length-i) 0 ⟨Nat.zero_le _,rfl⟩ ?_ ?_
 ·exact wk
 ·rintro i ⟨h1,h2⟩
  by_cases h:i<es.length
  ·have g1:=jn es i h
   obtain ⟨q1,q2⟩:=uz h h2
   by_cases he:es[i].name=n
   ·have q:=q1 he
    have e1:QV n es=true:=by unfold QV;rw[jh,q];rfl
    have e2:zF n es=es[i].ino:=by unfold zF;rw[q]
    push_cast -dsimp [hll,h,g1,he]
    repeat refine an ?_
    exact dn (by push_cast -dsimp [zb,za,CLe,ze,e1,e2])
   ·push_cast -dsimp [hll,h,g1,he]
    repeat refine an ?_
    exact ⟨i+1,⟨h,q2 he⟩,by omega,wk⟩
  ·rw[List.take_of_length_le (by omega)]at h2
   have e1:QV n es=false:=h2
   have e2:zF n es=0:=by unfold zF;rw[zhp h2]
   push_cast -dsimp [hll,h]
   exact dn (by push_cast -dsimp [zb,za,CLe,ze,e1,e2])
theorem N2 (es:List zH) (n:List UInt8) (hl:es.length<=90000):Fun Tryz.prog G 139 [.sl 2 (zE es),.str n] (.own 0 141 2 (zE (qF n es))) 1:=by
 have hll:(zE es).length=es.length:=List.length_map ..
 refine fon Tryz.func139 ?_;dsimp only[Tryz.f139]
 push_cast -dsimp
 refine loop (fun i:Nat=>⟨[(0,.sl 2 (zE es)),(1,.str n),(5,.own 0 141 2 (zE (qF n (es.take i)))),(6,.sc (.int .i64 i))],[],1,0⟩) (fun i=>i<=es.length) (fun i=>es.length-i) 0 (Nat.zero_le _) ?_ ?_
 ·exact wks [.inr (141,2)] (by push_cast -dsimp [zb,za,CLe,ze,qF,JU,List.filter_nil])
 ·intro i h1
  by_cases h:i<es.length
  ·have g1:=jn es i h
   have ht:qF n (es.take (i+1))=if es[i].name=n then qF n (es.take i) else qF n (es.take i)++[es[i]]:=zax h
   have hle:(qF n (es.take i)).length<=i:=Nat.le_trans (VJ n _) (by simp;omega)
   by_cases hc:es[i].name=n
   ·rw[if_pos hc]at ht
    push_cast -dsimp [hll,h,g1,hc]
    repeat refine an ?_
    exact ⟨i+1,h,by omega,wks [.inl 0] (by push_cast -dsimp [zb,za,CLe,ze,ht])⟩
   ·rw[if_neg hc]at ht
    push_cast -dsimp [hll,h,g1,hc]
    repeat refine an ?_
    exact ⟨i+1,h,by omega,wks [.inl 0] (by push_cast -dsimp [zb,za,CLe,ze,ht,List.map_append])⟩
  ·rw[List.take_of_length_le (by omega)]
   push_cast -dsimp [hll,h]
   exact ⟨[.inl 0],rfl,rfl,by push_cast -dsimp [zb,za,CLe,ze]⟩
theorem zdX (es:List zH) (n:List UInt8) (j:Int) (hl:es.length<=90000):Fun Tryz.prog G 138 [.sl 2 (zE es),.str n,.sc (.int .i64 j)] (.own 0 141 2 (zE (zY n j es))) 1:=by
 have hdl:(qF n es).length<=90000:=Nat.le_trans (VJ n _) hl
 have hl2:(zE (qF n es)).length=(qF n es).length:=List.length_map ..
 refine fon Tryz.func138 ?_;dsimp only[Tryz.f138]
 push_cast -dsimp
 refine cl (N2 es n hl) ?_;push_cast -dsimp
 show zdf _ _ _ _ _ _
 have hw:zY n j es=X8 jb zH.name ⟨n,j⟩ (qF n es):=rfl
 rw[hw]
 generalize qF n es=rest at hdl hl2
 refine loop (fun p:Nat×List zH×Bool=>⟨[(1,.str n),(2,.sc (.int .i64 j)),(7,.sl 2 (zE rest)),(8,.own 0 141 2 (zE p.2.1)),(9,.sc (.bool p.2.2)),(10,.sc (.int .i64 p.1))],[],1,0⟩)
  (fun p=>p.1<=rest.length/\p.2.1.length<=p.1+p.2.2.toNat/\X8 jb zH.name ⟨n,j⟩ rest=p.2.1++(if p.2.2 then rest.drop p.1 else X8 jb zH.name ⟨n,j⟩ (rest.drop p.1))) (fun p=>rest.length-p.1) (0,[],false) ⟨Nat.zero_le _,Nat.zero_le _,by simp⟩ ?_ ?_
 ·exact wks [.inr (141,2)]
 ·rintro ⟨i,out,d⟩ ⟨h1,h2,h3⟩
  dsimp only at h1 h2 h3 ⊢
  have hlo:(zE out).length=out.length:=List.length_map ..
  by_cases h:i<rest.length
  ·have g1:=jn rest i h
   rw[List.drop_eq_getElem_cons h]at h3
   cases d with
   | true =>
    simp only[Bool.toNat_true]at h2
    push_cast -dsimp [hl2,h,g1]
    repeat refine an ?_
    exact ⟨(i+1,out++[rest[i]],true),⟨h,by simp;omega,by rw[h3];simp⟩,by dsimp only;omega,wks [.inl 0] (by push_cast -dsimp [zb,za,CLe,ze,List.map_append])⟩
   | false =>
    simp only[Bool.false_eq_true,if_false,X8]at h3
    simp only[Bool.toNat_false]at h2
    have hgl:=zgV rest[i].name n
    cases hc:Op.bytesLess n rest[i].name with
    | true =>
     rw[if_pos (show jb.lt n rest[i].name=true from hc)]at h3
     rw[hc]at hgl
     push_cast -dsimp [hl2,h,g1,hgl]
     repeat refine an ?_
     exact ⟨(i+1,out++[(⟨n,j⟩:zH)]++[rest[i]],true),⟨h,by simp;omega,by rw[h3];simp⟩,by dsimp only;omega,wks [.inl 0] (by push_cast -dsimp [zb,za,CLe,ze,List.map_append])⟩
    | false =>
     rw[if_neg (show ¬jb.lt n rest[i].name=true by rw[show jb.lt n rest[i].name=false from hc];decide)]at h3
     rw[hc]at hgl
     push_cast -dsimp [hl2,h,g1,hgl]
     repeat refine an ?_
     exact ⟨(i+1,out++[rest[i]],false),⟨h,by simp;omega,by rw[h3];simp⟩,by dsimp only;omega,wks [.inl 0] (by push_cast -dsimp [zb,za,CLe,ze,List.map_append])⟩
  ·rw[List.drop_of_length_le (by omega)]at h3
   cases d with
   | true =>
    simp only[Bool.toNat_true]at h2
    have h3:X8 jb zH.name ⟨n,j⟩ rest=out:=by rw[h3];simp
    push_cast -dsimp [hl2,h]
    exact ⟨[.inl 0],rfl,rfl,by push_cast -dsimp [zb,za,CLe,ze,h3]⟩
   | false =>
    simp only[Bool.toNat_false]at h2
    have h3:X8 jb zH.name ⟨n,j⟩ rest=out++[⟨n,j⟩]:=by rw[h3];simp[X8]
    push_cast -dsimp [hl2,h]
    repeat refine an ?_
    exact ⟨[.inl 0],rfl,rfl,by push_cast -dsimp [zb,za,CLe,ze,h3,List.map_append]⟩
theorem GX (f:FsV) (hf:FsS f) (n b:Int) (hn:-1000000000<=n/\n<=1000000000) (hb:-1000000000<=b/\b<=1000000000):Fun Tryz.prog G 142 [.agg (fsC f),.sc (.int .i64 n),.sc (.int .i64 b)] (.sc (.bool (jU f n b))) 0:=by
 have hll:(zD f.xs).length=f.xs.length:=List.length_map ..
 have h40:=hf.len
 have hbb:=hf.bytes
 have hbf:=N4 (G:=G) f hf
 by_cases h:(f.xs.length:Int)+n<=f.maxI
 ·have e:jU f n b=decide ((zQ f.xs:Int)+b<=f.maxB):=by unfold jU;rw[decide_eq_true h,Bool.true_and]
  have h':(f.maxI<(f.xs.length:Int)+n)=False:=eq_false (by omega)
  refine fon Tryz.func142 ?_;dsimp only[Tryz.f142]
  push_cast -dsimp [hll,h']
  repeat refine an ?_
  refine cl (hbf) ?_;push_cast -dsimp
  repeat refine an ?_
  exact dn (by push_cast -dsimp [zb,za,CLe,ze,e])
 ·have e:jU f n b=false:=by unfold jU;rw[decide_eq_false h,Bool.false_and]
  have h':(f.maxI<(f.xs.length:Int)+n)=True:=eq_true (by omega)
  refine fon Tryz.func142 ?_;dsimp only[Tryz.f142]
  push_cast -dsimp [hll,h']
  repeat refine an ?_
  exact dn (by push_cast -dsimp [zb,za,CLe,ze,e])
end
theorem zkw (f:FsV) (hf:FsI f) (hs:FsS f) (p:List UInt8) (hp:p.length<=1000000):Fun Tryz.prog G0 137 [.agg (fsC f),.str p] (.tup [.agg (Qm (atV f p).1),.sc (.int .i64 (atV f p).2)]) 0:=by
 have hpl:=Y9 p (by omega)
 have hlen:=hs.len
 have hnl:(zh p).length<=1000000:=by have:=z7 p;omega
 cases hpp:jN p with
 | false =>
  have e:atV f p=(qy,9):=by unfold atV;rw[hpp];rfl
  unfold Jz at hpl
  rw[hpp]at hpl
  refine fof (fun i=>if i=14 then [false,false,false,false,false,false,false,false,true] else []) Tryz.func137 ?_;dsimp only[Tryz.f137]
  push_cast -dsimp
  refine cl (hpl) ?_;push_cast -dsimp
  exact dn (by push_cast -dsimp [zb,za,CLe,ze,e,qy])
 | true =>
  have e:atV f p=atW f.xs (zh p) ⟨0,[],1⟩:=by unfold atV;rw[hpp];rfl
  unfold Jz at hpl
  rw[hpp,if_pos rfl]at hpl
  generalize zh p=ns at hpl hnl e
  have hsl:(zB ns).length=ns.length:=List.length_map ..
  refine fof (fun i=>if i=14 then [false,false,false,false,false,false,false,false,true] else []) Tryz.func137 ?_;dsimp only[Tryz.f137]
  push_cast -dsimp
  refine cl (hpl) ?_;push_cast -dsimp
  refine loop (fun x:Nat×zT=>⟨[(1,.str p),(2,.ptr 0 0),(4,.ptr 1 0),(6,.own 0 9 1 (zB ns)),(8,.ptr 2 0),(9,.sc (.int .i64 x.1))],[fsC f,[.sc (.int .i64 0),.str [],.sc (.int .i64 0)],Qm x.2],1,0⟩)
   (fun x=>x.1<=ns.length/\atW f.xs ns ⟨0,[],1⟩=atW f.xs (ns.drop x.1) x.2/\(x.2.ino≠0->zw x.2.ino f.xs=true)) (fun x=>ns.length-x.1) (0,⟨0,[],1⟩) ⟨Nat.zero_le _,rfl,fun _=>hf.root⟩ ?_ ?_
  ·exact wks [.inl 0] (by push_cast -dsimp [zb,za,CLe,ze,hsl])
  rintro ⟨k,s⟩ ⟨hk,hat,hin⟩
  simp only at hk hat hin ⊢
  by_cases hlt:k<ns.length
  ·have gs:=GI hlt
   have hdr:ns.drop k=ns[k] :: ns.drop (k+1):=List.drop_eq_getElem_cons hlt
   obtain ⟨nm,hnm⟩:∃ nm,ns[k]=nm:=⟨_,rfl⟩
   rw[hnm]at gs hdr
   by_cases h0:s.ino=0
   ·have hr:atV f p=(qy,1):=by rw[e,hat,hdr];unfold atW;rw[if_pos h0]
    push_cast -dsimp [hsl,hlt,h0]
    exact dn (by push_cast -dsimp [zb,za,CLe,ze,hr,qy])
   ·have hh:=hin h0
    have hg:=Jg (G:=G0) f s.ino (by omega)
    have hgg:=zq hh
    rw[hh]at hg
    by_cases hk2:(zf s.ino f.xs).kind=2
    ·have hfd:=zcI (G:=G0) (zf s.ino f.xs).es nm (by have:=hs.es hh;omega)
     have hnx:atW f.xs ns ⟨0,[],1⟩=atW f.xs (ns.drop (k+1)) ⟨(zf s.ino f.xs).ino,nm,zF nm (zf s.ino f.xs).es⟩:=by
      rw[hat,hdr]
      conv=>lhs;unfold atW
      rw[if_neg h0,if_neg (by simp[hk2])]
     have hin2:zF nm (zf s.ino f.xs).es≠0->zw (zF nm (zf s.ino f.xs).es) f.xs=true:=fun hne=>by
      refine V6 hf hh ?_
      unfold QV
      rw[jh]
      cases hq:jM zH.name nm (zf s.ino f.xs).es with
      | some e=>rfl
      | none=>unfold zF at hne;rw[hq]at hne;exact absurd rfl hne
     push_cast -dsimp [hsl,hlt,h0]
     refine cl (hg) ?_;push_cast -dsimp [hk2,gs]
     repeat refine an ?_
     refine cl (hfd) ?_;push_cast -dsimp [gs]
     repeat refine an ?_
     exact ⟨(k+1,⟨(zf s.ino f.xs).ino,nm,zF nm (zf s.ino f.xs).es⟩),⟨hlt,hnx,hin2⟩,by simp only;omega,wks [.inl 0]⟩
    ·have hr:atV f p=(qy,3):=by rw[e,hat,hdr];unfold atW;rw[if_neg h0,if_pos hk2]
     push_cast -dsimp [hsl,hlt,h0]
     refine cl (hg) ?_;push_cast -dsimp [hk2]
     exact dn (by push_cast -dsimp [zb,za,CLe,ze,hr,qy])
  ·have hd0:ns.drop k = []:=List.drop_of_length_le (by omega)
   have hr:atV f p=(s,0):=by rw[e,hat,hd0];rfl
   push_cast -dsimp [hsl,hlt]
   exact dn (by push_cast -dsimp [zb,za,CLe,ze,hr])
end
section
open CA CB
open Go.RowKit
theorem zik {f:C} {x:zn} (hx:x.es = []) (R:Env) (vs:List Value) (h:zm R zu [f,.agg [.sc (.int .i64 x.ino),.sc (.int .i64 x.kind),.sc (.int .i64 x.links),.str x.data,.sc (.int .i64 x.parent),.sc (.slice none 0 0)]] vs):zm R zu [f,.agg (JD x)] vs:=by
 obtain ⟨v1,us1,rfl,h1,h⟩:=zd.1 h
 obtain ⟨v2,us2,rfl,h2,h⟩:=zd.1 h
 refine zd.2 ⟨_,_,rfl,h1,zd.2 ⟨_,_,rfl,?_,h⟩⟩
 obtain ⟨ws,rfl,hw⟩:=jd.1 h2
 obtain ⟨w1,t1,e1,g1,hw⟩:=zd.1 hw
 obtain ⟨w2,t2,e2,g2,hw⟩:=zd.1 hw
 obtain ⟨w3,t3,e3,g3,hw⟩:=zd.1 hw
 obtain ⟨w4,t4,e4,g4,hw⟩:=zd.1 hw
 obtain ⟨w5,t5,e5,g5,hw⟩:=zd.1 hw
 obtain ⟨w6,t6,e6,g6,hw⟩:=zd.1 hw
 refine jd.2 ⟨ws,rfl,?_⟩
 have g6':Rep R zu (.sl 2 (zE x.es)) w6:=by rw[hx];exact yZ g6
 rw[e1,e2,e3,e4,e5,e6]
 exact zd.2 ⟨_,_,rfl,g1,zd.2 ⟨_,_,rfl,g2,zd.2 ⟨_,_,rfl,g3,zd.2 ⟨_,_,rfl,g4,zd.2 ⟨_,_,rfl,g5,zd.2 ⟨_,_,rfl,g6',hw⟩⟩⟩⟩⟩⟩
theorem zic {G:zk} (f:FsV) (x:zn) (hx:x.es = []) (hl:f.xs.length<=90000) :
  Fun Tryz.prog G 97 [.agg (fsC f),.agg [.sc (.int .i64 x.ino),.sc (.int .i64 x.kind),.sc (.int .i64 x.links),.str x.data,.sc (.int .i64 x.parent),.sc (.slice none 0 0)]] (.agg [.sc (.int .i64 f.maxI),.sc (.int .i64 f.maxB),.sc (.int .i64 f.next),.own 0 96 6 (zD (jk x f.xs))]) 1:=
 (yP f x hl).argsLe (zik hx)
theorem yg (f:FsV) (hf:FsI f) (hs:FsS f) (hn:zlX f) (s:zT) (hsp:ZU f s) (hnl:s.name.length<=100000) (k:Int) (t:List UInt8) (ht:t.length<=100000) :
  Fun Tryz.prog G0 131 [.agg (fsC f),.agg (Qm s),.sc (.int .i64 k),.str t] (.tup [.agg (fsC (Yr f s k t).1),.sc (.int .i64 (Yr f s k t).2)]) 0:=by
 have hm:=Zn s.name (by omega)
 have hlen:=hs.len
 cases hmay:may s.name with
 | false =>
  have e:Yr f s k t=(f,9):=by unfold Yr;rw[hmay];rfl
  rw[hmay]at hm
  refine fof (fun j=>if j=13 then [false,false,false,false,false,true] else []) Tryz.func131 ?_;dsimp only[Tryz.f131]
  push_cast -dsimp
  refine cl (hm) ?_;push_cast -dsimp
  exact dn (by push_cast -dsimp [zb,za,CLe,ze,e])
 | true =>
  rw[hmay]at hm
  have key:∀ b:Int,(if k=1 then (t.length:Int) else 0)=b->jU f 1 b=false->Yr f s k t=(f,8):=fun b hb hr=>by unfold Yr;rw[hmay,if_pos rfl,hb,hr];rfl
  have key2:∀ b:Int,(if k=1 then (t.length:Int) else 0)=b->jU f 1 b=true->Yr f s k t=(Uj f s k t,0):=fun b hb hr=>by unfold Yr;rw[hmay,if_pos rfl,hb,hr];rfl
  have hg:=Jg (G:=G0) f s.dir (by omega)
  rw[hsp.has]at hg
  have hes:=hs.es hsp.has
  have hw:=zdX (G:=G0) (zf s.dir f.xs).es s.name f.next (by omega)
  have hd1:=yP (G:=G0) f (jT (zf s.dir f.xs) (zY s.name f.next (zf s.dir f.xs).es)) (by omega)
  have hdl:(YW s.dir (zY s.name f.next) f.xs).length=f.xs.length:=HT hf.rises hsp.has
  have hd2:=fun pr:Int=>zic (G:=G0) ⟨f.maxI,f.maxB,f.next,YW s.dir (zY s.name f.next) f.xs⟩ ⟨f.next,k,1,t,pr,[]⟩ rfl (by simp only;omega)
  have hn1:=hn.1
  have hn2:=hn.2
  have hx0:k=2->Uj f s k t=⟨f.maxI,f.maxB,f.next+1,jk ⟨f.next,k,1,t,s.dir,[]⟩ (YW s.dir (zY s.name f.next) f.xs)⟩:=fun h=>by unfold Uj;rw[if_pos h]
  have hx1:k≠2->Uj f s k t=⟨f.maxI,f.maxB,f.next+1,jk ⟨f.next,k,1,t,0,[]⟩ (YW s.dir (zY s.name f.next) f.xs)⟩:=fun h=>by unfold Uj;rw[if_neg h]
  unfold YW at hd2 hx0 hx1
  by_cases hk:k=1
  ·have hk':=eq_true hk
   have hk2:(k=2)=False:=eq_false (by omega)
   have hr:=GX (G:=G0) f hs 1 t.length (by omega) (by omega)
   cases hrm:jU f 1 t.length with
   | false =>
    have e:=key _ (if_pos hk) hrm
    rw[hrm]at hr
    refine fof (fun j=>if j=13 then [false,false,false,false,false,true] else []) Tryz.func131 ?_;dsimp only[Tryz.f131]
    push_cast -dsimp
    refine cl (hm) ?_;push_cast -dsimp [hk']
    refine cl (hr) ?_;push_cast -dsimp
    exact dn (by push_cast -dsimp [zb,za,CLe,ze,e])
   | true =>
    have e:=key2 _ (if_pos hk) hrm
    have ex:=hx1 (by omega)
    rw[hrm]at hr
    refine fof (fun j=>if j=13 then [false,false,false,false,false,true] else []) Tryz.func131 ?_;dsimp only[Tryz.f131]
    push_cast -dsimp
    refine cl (hm) ?_;push_cast -dsimp [hk']
    refine cl (hr) ?_;push_cast -dsimp
    refine cl (hg) ?_;push_cast -dsimp
    refine cl (hw) ?_;push_cast -dsimp [hk2]
    refine cl (hd1) ?_;push_cast -dsimp
    refine cl (hd2 0) ?_;push_cast -dsimp
    repeat refine an ?_
    exact dn (by push_cast -dsimp [zb,za,CLe,ze,e,ex])
  ·have hk':=eq_false hk
   have hr:=GX (G:=G0) f hs 1 0 (by omega) (by omega)
   cases hrm:jU f 1 0 with
   | false =>
    have e:=key _ (if_neg hk) hrm
    rw[hrm]at hr
    refine fof (fun j=>if j=13 then [false,false,false,false,false,true] else []) Tryz.func131 ?_;dsimp only[Tryz.f131]
    push_cast -dsimp
    refine cl (hm) ?_;push_cast -dsimp [hk']
    refine cl (hr) ?_;push_cast -dsimp
    exact dn (by push_cast -dsimp [zb,za,CLe,ze,e])
   | true =>
    have e:=key2 _ (if_neg hk) hrm
    rw[hrm]at hr
    by_cases hk2:k=2
    ·have ex:=hx0 hk2
     have hk2':=eq_true hk2
     refine fof (fun j=>if j=13 then [false,false,false,false,false,true] else []) Tryz.func131 ?_;dsimp only[Tryz.f131]
     push_cast -dsimp
     refine cl (hm) ?_;push_cast -dsimp [hk']
     refine cl (hr) ?_;push_cast -dsimp
     refine cl (hg) ?_;push_cast -dsimp
     refine cl (hw) ?_;push_cast -dsimp [hk2']
     refine cl (hd1) ?_;push_cast -dsimp
     refine cl (hd2 s.dir) ?_;push_cast -dsimp
     repeat refine an ?_
     exact dn (by push_cast -dsimp [zb,za,CLe,ze,e,ex])
    ·have ex:=hx1 hk2
     have hk2':=eq_false hk2
     refine fof (fun j=>if j=13 then [false,false,false,false,false,true] else []) Tryz.func131 ?_;dsimp only[Tryz.f131]
     push_cast -dsimp
     refine cl (hm) ?_;push_cast -dsimp [hk']
     refine cl (hr) ?_;push_cast -dsimp
     refine cl (hg) ?_;push_cast -dsimp
     refine cl (hw) ?_;push_cast -dsimp [hk2']
     refine cl (hd1) ?_;push_cast -dsimp
     refine cl (hd2 0) ?_;push_cast -dsimp
     repeat refine an ?_
     exact dn (by push_cast -dsimp [zb,za,CLe,ze,e,ex])
end
section
open CA CB
open Go.RowKit
theorem VI {ks:List jP} {i:Nat} (h:i<ks.length):jv (ks.take (i+1))=ks[i].slot:=by
 have q:(ks.take (i+1)).getLast?=some ks[i]:=by
  rw[List.getLast?_eq_getElem?,show (ks.take (i+1)).length-1=i by rw[List.length_take];omega,List.getElem?_take_of_lt (by omega),List.getElem?_eq_getElem h]
 unfold jv
 rw[q]
section
variable {G:zk}
theorem Vx (w:zS):Fun Tryz.prog G 114 [ZZ w] (.agg [.sc (.int .i64 0),.sc (.int .i64 0),.sc (.int .i64 0),.sl 6 (zD w.pool)]) 0:=by
 refine fon Tryz.func114 ?_;dsimp only[Tryz.f114]
 push_cast -dsimp
 exact dn
theorem VD (w:zS) (hk:w.kept.length<=100000) (hR:jt zo5 jP.slot w.kept) (hp:∀ k∈w.kept,1<=k.slot):Fun Tryz.prog G 29 [ZZ w] (.sc (.int .i64 (jv w.kept))) 0:=by
 obtain ⟨f,ks,pool⟩:=w
 have hk:ks.length<=100000:=hk
 have hll:(Je ks).length=ks.length:=List.length_map ..
 show Fun Tryz.prog G 29 [ZZ ⟨f,ks,pool⟩] (.sc (.int .i64 (jv ks))) 0
 have h0:jv []=0:=rfl
 refine fon Tryz.func29 ?_;dsimp only[Tryz.f29]
 push_cast -dsimp
 refine loop (fun i:Nat=>⟨[(1,.ptr 0 0),(3,.sc (.int .i64 (jv (ks.take i)))),(4,.sc (.int .i64 i))],[UH ⟨f,ks,pool⟩],0,0⟩) (fun i=>i<=ks.length) (fun i=>ks.length-i) 0 (Nat.zero_le _) ?_ ?_
 ·exact wk (by push_cast -dsimp [zb,za,CLe,ze,List.take_zero,h0])
 ·intro i hi
  by_cases h:i<ks.length
  ·have g1:=Jh ks i h
   have e1:jv (ks.take (i+1))=ks[i].slot:=VI h
   have e2:(if ks[i].slot>jv (ks.take i) then ks[i].slot else jv (ks.take i))=ks[i].slot:=by
    suffices hle:jv (ks.take i)<=ks[i].slot by split<;>omega
    rcases Nat.eq_zero_or_pos i with rfl | hpos
    ·have:=hp _ (List.getElem_mem h)
     show (0:Int)<=_
     omega
    ·obtain ⟨j,rfl⟩:∃ j,i=j+1:=⟨i-1,by omega⟩
     have hj:j<ks.length:=by omega
     rw[VI hj]
     have:=(List.pairwise_iff_getElem.1 hR) j (j+1) hj h (by omega)
     have:ks[j].slot<ks[j+1].slot:=of_decide_eq_true this
     omega
   push_cast -dsimp [hll,h,g1]
   repeat refine an ?_
   exact ⟨i+1,h,by omega,wk (by push_cast -dsimp [zb,za,CLe,ze,e1,e2])⟩
  ·rw[List.take_of_length_le (by omega)]
   push_cast -dsimp [hll,h]
   exact dn
end
end
section
open CA CB
open Go.RowKit
theorem zlg (f:FsV) (hf:FsI f) (hs:FsS f) (p:List UInt8) (hp:p.length<=1000000) (b:Bool):Fun Tryz.prog G0 86 [.agg (fsC f),.str p,.sc (.int .i64 (if b then 1 else 0))] (.tup [.agg (Qm (isV f p b).1),.agg (JD (isV f p b).2.1),.sc (.int .i64 (isV f p b).2.2)]) 0:=by
 have hlen:=hs.len
 have h1:=zkw f hf hs p hp
 have h2:=Jg (G:=G0) f (atV f p).1.ino (by omega)
 have e1:(isV f p b).1=(atV f p).1:=rfl
 have e2:(isV f p b).2.1=zf (atV f p).1.ino f.xs:=rfl
 have e3:(isV f p b).2.2=if (atV f p).2≠0 then (atV f p).2 else if b&&!zw (atV f p).1.ino f.xs then 1 else if !b&&zw (atV f p).1.ino f.xs then 2 else 0:=rfl
 by_cases h0:(atV f p).2=0
 ·rw[if_neg (fun h=>h h0)]at e3
  have h0':=eq_true h0
  rw[h0]at h1
  cases hb:b with
  | true =>
   subst hb
   cases hh:zw (atV f p).1.ino f.xs with
   | true =>
    rw[hh]at h2 e3
    simp only[Bool.true_and,Bool.not_true,Bool.false_and,if_false,Bool.false_eq_true]at e3
    refine fof (fun i=>if i=7 then zjh [(0,.pure),(1,.pure),(2,.pure),(3,.flt [1,2]),(4,.flt [2]),(5,.pure)] else []) Tryz.func86 ?_;dsimp only[Tryz.f86]
    push_cast -dsimp [if_true]
    refine cl (h1) ?_;push_cast -dsimp
    refine cl (h2) ?_;push_cast -dsimp
    exact dn (by push_cast -dsimp [zb,za,CLe,ze,e1,e2,e3])
   | false =>
    rw[hh]at h2 e3
    simp only[Bool.true_and,Bool.not_false,if_true]at e3
    refine fof (fun i=>if i=7 then zjh [(0,.pure),(1,.pure),(2,.pure),(3,.flt [1,2]),(4,.flt [2]),(5,.pure)] else []) Tryz.func86 ?_;dsimp only[Tryz.f86]
    push_cast -dsimp [if_true]
    refine cl (h1) ?_;push_cast -dsimp
    refine cl (h2) ?_;push_cast -dsimp
    exact dn (by push_cast -dsimp [zb,za,CLe,ze,e1,e2,e3])
  | false =>
   subst hb
   cases hh:zw (atV f p).1.ino f.xs with
   | true =>
    rw[hh]at h2 e3
    simp only[Bool.false_and,Bool.not_false,Bool.true_and,if_true,if_false,Bool.false_eq_true]at e3
    refine fof (fun i=>if i=7 then zjh [(0,.pure),(1,.pure),(2,.pure),(3,.flt [1,2]),(4,.flt [2]),(5,.pure)] else []) Tryz.func86 ?_;dsimp only[Tryz.f86]
    push_cast -dsimp [Bool.false_eq_true,if_false]
    refine cl (h1) ?_;push_cast -dsimp
    refine cl (h2) ?_;push_cast -dsimp
    exact dn (by push_cast -dsimp [zb,za,CLe,ze,e1,e2,e3])
   | false =>
    rw[hh]at h2 e3
    simp only[Bool.false_and,Bool.not_false,Bool.true_and,if_false,Bool.false_eq_true]at e3
    refine fof (fun i=>if i=7 then zjh [(0,.pure),(1,.pure),(2,.pure),(3,.flt [1,2]),(4,.flt [2]),(5,.pure)] else []) Tryz.func86 ?_;dsimp only[Tryz.f86]
    push_cast -dsimp [Bool.false_eq_true,if_false]
    refine cl (h1) ?_;push_cast -dsimp
    refine cl (h2) ?_;push_cast -dsimp
    exact dn (by push_cast -dsimp [zb,za,CLe,ze,e1,e2,e3])
 ·rw[if_pos h0]at e3
  have h0':=eq_false h0
  refine fof (fun i=>if i=7 then zjh [(0,.pure),(1,.pure),(2,.pure),(3,.flt [1,2]),(4,.flt [2]),(5,.pure)] else []) Tryz.func86 ?_;dsimp only[Tryz.f86]
  push_cast -dsimp
  refine cl (h1) ?_;push_cast -dsimp
  refine cl (h2) ?_;push_cast -dsimp [h0']
  exact dn (by push_cast -dsimp [zb,za,CLe,ze,e1,e2,e3])
theorem zb1 (w:zS) (hw:UQ w) (hs:zfH w) (p:List UInt8) (hp:p.length<=1000000) (hpl:zJ p=true) (k:Int) (t:List UInt8) (ht:t.length<=10000):Fun Tryz.prog G0 83 [ZZ w,.str p,.sc (.int .i64 k),.str t] (.tup [ZZ (zP w p k t).1,.sc (.int .i64 (zP w p k t).2)]) 0:=by
 have h1:=zlg w.fs hw.fs hs.fs p hp false
 rw[if_neg (by decide)]at h1
 by_cases h0:(isV w.fs p false).2.2=0
 ·have h0':=eq_true h0
  have hfr:=VT hw.fs hpl h0
  have hln:=zi5 hw.fs hpl (zcS h0)
  have hln:(isV w.fs p false).1.name.length<=300:=hln
  have hc:=yg w.fs hw.fs hs.fs hs.next (isV w.fs p false).1 hfr (by omega) k t (by omega)
  have e:zP w p k t=({ w with fs:=(Yr w.fs (isV w.fs p false).1 k t).1 },(Yr w.fs (isV w.fs p false).1 k t).2):=by unfold zP;rw[if_neg (fun h=>h h0)]
  rw[h0]at h1
  refine fon Tryz.func83 ?_;dsimp only[Tryz.f83]
  push_cast -dsimp
  refine cl (h1) ?_;push_cast -dsimp
  refine cl (hc) ?_;push_cast -dsimp
  exact dn (by push_cast -dsimp [zb,za,CLe,ze,e])
 ·have h0':=eq_false h0
  have e:zP w p k t=(w,(isV w.fs p false).2.2):=by unfold zP;rw[if_pos h0]
  refine fon Tryz.func83 ?_;dsimp only[Tryz.f83]
  push_cast -dsimp
  refine cl (h1) ?_;push_cast -dsimp [h0']
  exact dn (by push_cast -dsimp [zb,za,CLe,ze,e])
end
section
open CA CB
open Go.RowKit
def zqI (n:Int):List C:=[.sc (.int .i64 n)]
abbrev zpA (l:List Int):List (List C):=l.map zqI
theorem xg (l:List Int):(zpA l).length=l.length:=List.length_map _
theorem zbW (l:List Int) (n:Int):zpA l++[[.sc (.int .i64 n)]]=zpA (l++[n]):=by simp[zqI]
attribute [push_cast] xg zbW
abbrev zbr (l:List OpV):List (List C):=l.map opL
theorem xx (l:List OpV):(zbr l).length=l.length:=List.length_map _
theorem MI (l:List OpV) (k:Nat) (h:k<l.length):(zbr l)[k]?=some (opL (l[k]'h)):=by rw[List.getElem?_map,List.getElem?_eq_getElem h];rfl
theorem zb7 (l:List OpV) (k:Nat):(zbr l).take k=zbr (l.take k):=List.map_take.symm
theorem zbB (l:List OpV) (k:Nat):(zbr l).drop k=zbr (l.drop k):=List.map_drop.symm
attribute [push_cast] xx zb7 zbB
def zmR (a b:Int):Int:=if a<b then -1 else if b<a then 1 else 0
def vo (w:Int):List Int->Bool
 | a :: b :: r=>decide (zmR b a=w)&&vo w (b :: r)
 | _=>true
theorem yT (w:Int):∀ l:List Int,vo w l=true↔∀ (j:Nat) (h:j+1<l.length),zmR (l[j+1]'h) (l[j]'(by omega))=w
 | []=>by simp[vo]
 | [a]=>by simp[vo]
 | a :: b :: r=>by
  have ih:=yT w (b :: r)
  simp only[vo,Bool.and_eq_true,decide_eq_true_eq,ih]
  constructor
  ·rintro ⟨h1,h2⟩ j h
   cases j with
   | zero=>exact h1
   | succ j=>exact h2 j (by simpa using h)
  ·exact fun h=>⟨h 0 (by simp),fun j hj=>h (j+1) (by simpa using hj)⟩
end
section
open Go.RowKit
def jD (l:List OpV):List Int:=(l.filter fun o=>jB o.kind).map (·.slot)
theorem VY (l:List OpV) (k:Nat) (h:k<l.length):jD (l.take (k+1))=if jB (l[k]'h).kind then jD (l.take k)++[(l[k]'h).slot] else jD (l.take k):=by
 unfold jD
 rw[List.take_add_one,List.getElem?_eq_getElem h,List.filter_append]
 cases hf:jB (l[k]'h).kind<;>simp[hf]
end
section
open Go.RowKit
def Xk (o:OpV):Bool:=!kD o||decide (7<o.kind)
def zi3 (l:List OpV):Prop:=∀ o∈l,zbj o
def Y0 (l:List OpV):Bool:=!l.any Xk&&vo 1 (jD l)
def zkl (o p:OpV):Bool:=decide (o.kind=p.kind)&&decide (o.slot=p.slot)&&decide (o.a=p.a)&&decide (o.b=p.b)&&decide (o.d=p.d)
def Jx:List OpV->List OpV->Bool
 | [],[]=>true
 | o :: r,p :: s=>zkl o p&&Jx r s
 | _,_=>false
theorem Yn:∀ l m:List OpV,Jx l m=true↔l.length=m.length/\∀ (j:Nat) (h:j<l.length) (h':j<m.length),zkl (l[j]'h) (m[j]'h')=true
 | [],[]=>by simp[Jx]
 | [],p :: s=>by simp[Jx]
 | o :: r,[]=>by simp[Jx]
 | o :: r,p :: s=>by
  have ih:=Yn r s
  simp only[Jx,Bool.and_eq_true,ih,List.length_cons]
  constructor
  ·rintro ⟨h1,h2,h3⟩
   refine ⟨by omega,fun j hj hj'=>?_⟩
   cases j with
   | zero=>exact h1
   | succ j=>exact h3 j (by omega) (by omega)
  ·rintro ⟨h1,h2⟩
   exact ⟨h2 0 (by omega) (by omega),by omega,fun j hj hj'=>h2 (j+1) (by omega) (by omega)⟩
end
section
open CA CB
open Go.RowKit
theorem UR (p:List UInt8) (hp:p.length<=1000000):Fun Tryz.prog G0 94 [.str p] (qh (zJ p)) 0:=by
 have h:=Y9 p (by omega)
 unfold Jz at h
 cases hb:jN p with
 | false =>
  rw[hb]at h
  refine fon Tryz.func94 ?_;dsimp only[Tryz.f94]
  push_cast -dsimp
  refine cl (h) ?_;push_cast -dsimp
  exact ⟨[],rfl,rfl,by push_cast -dsimp [zb,za,CLe,ze];simp[zJ,hb]⟩
 | true =>
  rw[hb,if_pos rfl]at h
  refine fon Tryz.func94 ?_;dsimp only[Tryz.f94]
  push_cast -dsimp
  refine cl (h) ?_;push_cast -dsimp
  refine ⟨[],rfl,rfl,?_⟩
  push_cast -dsimp [zb,za,CLe,ze]
  by_cases hn:zh p = []
  ·simp[zJ,hb,hn]
  ·have:=List.length_pos_iff.2 hn
   simp[zJ,hb,hn,this]
theorem xc (s:List UInt8) (hs:s.length<=1000000):Fun Tryz.prog G0 95 [.str s] (qh (YB s)) 0:=by
 refine fon Tryz.func95 ?_;dsimp only[Tryz.f95]
 push_cast -dsimp
 refine loop (fun k:Nat=>⟨[(0,.str s),(3,.sc (.int .i64 k))],[],0,0⟩) (fun k=>k<=s.length/\∀ j (hj:j<s.length),j<k->decide (s[j]'hj=0)=false) (fun k=>s.length-k) 0 ⟨Nat.zero_le _,fun j _ hj=>by omega⟩ ?_ ?_
 ·exact wk
 ·intro k hk
  have hk1:=hk.1
  have hk2:=hk.2
  by_cases h:k<s.length
  ·have hb:s[k]?=some (s[k]'h):=List.getElem?_eq_getElem h
   by_cases h0:s[k]'h=0
   ·have h1:((s[k]'h).toNat:Int)=0:=by rw[h0];rfl
    push_cast -dsimp [h,hb,h1]
    refine ⟨by omega,[],rfl,rfl,?_⟩
    push_cast -dsimp [zb,za,CLe,ze]
    have:s.any (fun b=>decide (b=0))=true:=List.any_eq_true.2 ⟨s[k]'h,List.getElem_mem h,by simpa using h0⟩
    simp[YB,this]
   ·have h1:¬((s[k]'h).toNat:Int)=0:=zix h0
    push_cast -dsimp [h,hb,h1]
    repeat refine an ?_
    refine ⟨k+1,⟨by omega,fun j hj hjk=>?_⟩,by omega,wk⟩
    rcases Nat.lt_or_ge j k with g | g
    ·exact hk2 j hj g
    ·have:j=k:=by omega
     subst this;simpa using h0
  ·have hall:s.any (fun b=>decide (b=0))=false:=List.any_eq_false.2 fun x hx=>by
    obtain ⟨j,hj,rfl⟩:=List.getElem_of_mem hx
    have:=hk2 j hj (by omega)
    simp[this]
   by_cases h1:s = []
   ·have hn:¬(1:Int)<=(s.length:Int):=by rw[h1];simp
    push_cast -dsimp [h,hn]
    exact ⟨[],rfl,rfl,by push_cast -dsimp [zb,za,CLe,ze]<;>simp[YB,h1]⟩
   ·have hpos:1<=s.length:=List.length_pos_iff.2 h1
    have hpos':(1:Int)<=(s.length:Int):=by omega
    push_cast -dsimp [h,hpos,hpos']
    refine ⟨[],rfl,rfl,?_⟩
    push_cast -dsimp [zb,za,CLe,ze]
    have:decide ((s.length:Int)<=4095)=decide (s.length<=4095):=by rw[decide_eq_decide];omega
    simp[YB,h1,hall,this]
theorem VM (k:Int):Fun Tryz.prog G0 44 [.sc (.int .i64 k)] (qh (jB k)) 0:=by
 refine fon Tryz.func44 ?_;dsimp only[Tryz.f44]
 push_cast -dsimp
 repeat' (first
  | (refine br (fun h=>?_) (fun h=>?_)<;>push_cast -dsimp [h])
  | (refine ⟨[],rfl,rfl,?_⟩;push_cast -dsimp [zb,za,CLe,ze];simp_all [jB]))
theorem Ur {a b:List UInt8} (ha:zJ a=true) (hb:zJ b=true):YK a b=JQ a b:=by
 simp only[zJ,Bool.and_eq_true]at ha hb
 exact xi a b ha.1 hb.1
theorem vP (k s:Int) (a b d:List UInt8) (hs:zbj ⟨k,s,a,b,d⟩):Fun Tryz.prog G0 43 [.agg (opL ⟨k,s,a,b,d⟩)] (qh (kD ⟨k,s,a,b,d⟩)) 0:=by
 have hs1:a.length<=1000000:=hs.1
 have hs2:b.length<=1000000:=hs.2.1
 have hs3:d.length<=1000000:=hs.2.2
 have h1:=(UR a (by omega))
 have h2:=(UR b (by omega))
 have h3:=(xc d (by omega))
 have h4:=(ZP a b (by omega) (by omega))
 have h5:=(ZP b a (by omega) (by omega))
 have h6:=VM k
 unfold opL
 by_cases hk1:k<1
 ·have:¬1<=k:=by omega
  refine fon Tryz.func43 ?_;dsimp only[Tryz.f43]
  push_cast -dsimp [hk1]
  exact ⟨[],rfl,rfl,by push_cast -dsimp [zb,za,CLe,ze];simp[kD,this]⟩
 by_cases hk2:10<k
 ·have:¬k<=10:=by omega
  refine fon Tryz.func43 ?_;dsimp only[Tryz.f43]
  push_cast -dsimp [hk1,hk2]
  exact ⟨[],rfl,rfl,by push_cast -dsimp [zb,za,CLe,ze];simp[kD,this]⟩
 cases hp:zJ a with
 | false =>
  rw[hp]at h1
  refine fon Tryz.func43 ?_;dsimp only[Tryz.f43]
  push_cast -dsimp [hk1,hk2]
  refine cl (h1) ?_;push_cast -dsimp
  exact ⟨[],rfl,rfl,by push_cast -dsimp [zb,za,CLe,ze];simp[kD,hp]⟩
 | true =>
  rw[hp]at h1
  have hu:zJ b=true->YK a b=JQ a b:=fun hb=>Ur hp hb
  have hu2:zJ b=true->YK b a=JQ b a:=fun hb=>Ur hb hp
  have hk:k=1∨k=2∨k=3∨k=4∨k=5∨k=6∨k=7∨k=8∨k=9∨k=10:=by omega
  clear hk1 hk2 hs hs1 hs2 hs3
  rcases hk with rfl | rfl | rfl | rfl | rfl | rfl | rfl | rfl | rfl | rfl
  all_goals
   simp[jB]at h6
   refine fon Tryz.func43 ?_;dsimp only[Tryz.f43]
   push_cast -dsimp
   refine cl (h1) ?_;push_cast -dsimp
   refine cl (h6) ?_;push_cast -dsimp
   repeat' (first
    | (refine call h2 ?_;push_cast -dsimp)
    | (refine UM h2 ?_;push_cast -dsimp)
    | (refine call h3 ?_;push_cast -dsimp)
    | (refine UM h3 ?_;push_cast -dsimp)
    | (refine call h4 ?_;push_cast -dsimp)
    | (refine UM h4 ?_;push_cast -dsimp)
    | (refine call h5 ?_;push_cast -dsimp)
    | (refine UM h5 ?_;push_cast -dsimp)
    | (refine br (fun h=>?_) (fun h=>?_)<;>push_cast -dsimp [h])
    | (refine ⟨[],rfl,rfl,?_⟩;push_cast -dsimp [zb,za,CLe,ze];clear h1 h2 h3 h4 h5 h6;simp_all [kD,jB,znz]<;>omega))
end
section
open CA CB
open Go.RowKit
theorem zgJ (w:zS) (hw:UQ w) (hs:zfH w) (s:Int) (a b d:List UInt8) (ho:zbj ⟨1,s,a,b,d⟩) (hd:d.length<=10000) (hm:kD ⟨1,s,a,b,d⟩=true) (p1:zJ a=true) (p2:znz 1=true->zJ b=true):Fun Tryz.prog G0 42 [ZZ w,.agg (opL ⟨1,s,a,b,d⟩)] (.tup [ZZ (doV w ⟨1,s,a,b,d⟩).1,.sc (.int .i64 (doV w ⟨1,s,a,b,d⟩).2)]) 0:=by
 have e0:doV w ⟨1,s,a,b,d⟩=zP w a 2 []:=by unfold doV;rw[hm];rfl
 have hop:=vP 1 s a b d ho
 rw[hm]at hop
 rw[e0]
 unfold qh opL at hop
 unfold opL
 have h1:=zb1 w hw hs a ho.1 p1 2 [] (by simp)
 refine fon Tryz.func42 ?_;dsimp only[Tryz.f42]
 push_cast -dsimp
 refine cl (hop) ?_;push_cast -dsimp
 refine cl (h1) ?_;push_cast -dsimp
 exact dn
end
section
open CA CB
open Go.RowKit
def jQ (f:FsV):Prop:=1<=f.maxI/\f.maxI<=1073741824/\0<=f.maxB/\f.maxB<=1073741824/\f.next<=1099511627776/\(∀ x∈f.xs,1<=x.ino/\x.ino<f.next)/\zZ f.xs/\zw 1 f.xs=true/\(zf 1 f.xs).kind=2
instance (f:FsV):Decidable (jQ f):=by unfold jQ;infer_instance
def JI (f:FsV):Prop:=∀ x∈f.xs,∀ e∈x.es,zw e.ino f.xs=true
instance (f:FsV):Decidable (JI f):=by unfold JI;infer_instance
def UJ (f:FsV):Prop:=(f.xs.length:Int)<=f.maxI/\(zQ f.xs:Int)<=f.maxB
instance (f:FsV):Decidable (UJ f):=by unfold UJ;infer_instance
theorem zO {α:Type} {l:List α} {i:Nat} (h:i<l.length) {P:α->Prop} (h1:∀ x∈l.take i,P x) (h2:P l[i]):∀ x∈l.take (i+1),P x:=fun x hx=>by
 rw[List.take_add_one,List.getElem?_eq_getElem h]at hx
 rcases List.mem_append.1 hx with hx | hx
 ·exact h1 x hx
 ·simp at hx;subst hx;exact h2
section
variable {G:zk}
theorem NJ (f:FsV) (hl:f.xs.length<=100000):Fun Tryz.prog G 162 [.agg (fsC f)] (.sc (.bool (decide (jQ f)))) 0:=by
 have hll:(zD f.xs).length=f.xs.length:=List.length_map ..
 refine fon Tryz.func162 ?_;dsimp only[Tryz.f162]
 by_cases e0:f.maxI<1
 case pos =>
  have hn:¬jQ f:=fun h=>by have:=h.1;omega
  push_cast -dsimp [e0]
  exact dn (by push_cast -dsimp [zb,za,CLe,ze,hn])
 by_cases e1:1073741824<f.maxI
 case pos =>
  have hn:¬jQ f:=fun h=>by have:=h.2.1;omega
  push_cast -dsimp [e0,e1]
  exact dn (by push_cast -dsimp [zb,za,CLe,ze,hn])
 by_cases e2:f.maxB<0
 case pos =>
  have hn:¬jQ f:=fun h=>by have:=h.2.2.1;omega
  push_cast -dsimp [e0,e1,e2]
  exact dn (by push_cast -dsimp [zb,za,CLe,ze,hn])
 by_cases e3:1073741824<f.maxB
 case pos =>
  have hn:¬jQ f:=fun h=>by have:=h.2.2.2.1;omega
  push_cast -dsimp [e0,e1,e2,e3]
  exact dn (by push_cast -dsimp [zb,za,CLe,ze,hn])
 by_cases e4:1099511627776<f.next
 case pos =>
  have hn:¬jQ f:=fun h=>by have:=h.2.2.2.2.1;omega
  push_cast -dsimp [e0,e1,e2,e3,e4]
  exact dn (by push_cast -dsimp [zb,za,CLe,ze,hn])
 push_cast -dsimp [e0,e1,e2,e3,e4]
 refine loop (fun i:Nat=>⟨[(1,.ptr 0 0),(3,.sc (.int .i64 i))],[fsC f],0,0⟩) (fun i=>i<=f.xs.length/\∀ x∈f.xs.take i,1<=x.ino/\x.ino<f.next) (fun i=>f.xs.length-i) 0 ⟨Nat.zero_le _,fun x hx=>by simp at hx⟩ ?_ ?_
 ·exact wk
 ·rintro i ⟨h1,h2⟩
  by_cases h:i<f.xs.length
  ·have g1:=qx f.xs i h
   by_cases c1:f.xs[i].ino<1
   ·have hn:¬jQ f:=fun h'=>by have:=h'.2.2.2.2.2.1 _ (List.getElem_mem h);omega
    push_cast -dsimp [hll,h,g1,c1]
    repeat refine an ?_
    exact dn (by push_cast -dsimp [zb,za,CLe,ze,hn])
   ·by_cases c2:f.next<=f.xs[i].ino
    ·have hn:¬jQ f:=fun h'=>by have:=h'.2.2.2.2.2.1 _ (List.getElem_mem h);omega
     push_cast -dsimp [hll,h,g1,c1,c2]
     repeat refine an ?_
     exact dn (by push_cast -dsimp [zb,za,CLe,ze,hn])
    ·push_cast -dsimp [hll,h,g1,c1,c2]
     repeat refine an ?_
     exact ⟨i+1,⟨h,zO h h2 (by omega)⟩,by omega,wk⟩
  ·rw[List.take_of_length_le (by omega)]at h2
   have hf:jQ f↔zZ f.xs/\zw 1 f.xs=true/\(zf 1 f.xs).kind=2:=⟨fun h=>h.2.2.2.2.2.2,fun h=>⟨by omega,by omega,by omega,by omega,by omega,h2,h⟩⟩
   push_cast -dsimp [hll,h]
   refine cl (Jg f 1 hl) ?_;push_cast -dsimp
   by_cases c1:zZ f.xs
   ·cases c2:zw 1 f.xs with
    | true =>
     refine cl (Ve f hl) ?_;push_cast -dsimp [decide_eq_true c1,c2]
     exact dn (by push_cast -dsimp [zb,za,CLe,ze,hf,c1,c2])
    | false =>
     have hn:¬jQ f:=fun h=>by have:=(hf.1 h).2.1;rw[c2]at this;cases this
     refine cl (Ve f hl) ?_;push_cast -dsimp [decide_eq_true c1,c2]
     exact dn (by push_cast -dsimp [zb,za,CLe,ze,hn])
   ·have hn:¬jQ f:=fun h=>c1 (hf.1 h).1
    refine cl (Ve f hl) ?_;push_cast -dsimp [decide_eq_false c1]
    exact dn (by push_cast -dsimp [zb,za,CLe,ze,hn])
theorem Nt (f:FsV) (hf:FsS f):Fun Tryz.prog G 164 [.agg (fsC f)] (.sc (.bool (decide (JI f)))) 0:=by
 have hll:(zD f.xs).length=f.xs.length:=List.length_map ..
 have h40:=hf.len
 refine fof (fun i=>if i=7 then YU 15 16 else []) Tryz.func164 ?_;dsimp only[Tryz.f164]
 push_cast -dsimp
 refine loop (fun i:Nat=>⟨[(1,.ptr 0 0),(3,.sc (.int .i64 i))],[fsC f],0,0⟩) (fun i=>i<=f.xs.length/\∀ x∈f.xs.take i,∀ e∈x.es,zw e.ino f.xs=true) (fun i=>f.xs.length-i) 0 ⟨Nat.zero_le _,fun x hx=>by simp at hx⟩ ?_ ?_
 ·exact wk
 ·rintro i ⟨h1,h2⟩
  by_cases h:i<f.xs.length
  ·have g1:=qx f.xs i h
   have he:=(hf.node _ (List.getElem_mem h)).1
   have hle:(zE f.xs[i].es).length=f.xs[i].es.length:=List.length_map ..
   push_cast -dsimp [hll,h]
   refine loop (fun k:Nat=>⟨[(1,.ptr 0 0),(3,.sc (.int .i64 i)),(4,.sc (.int .i64 k))],[fsC f],0,0⟩) (fun k=>k<=f.xs[i].es.length/\∀ e∈f.xs[i].es.take k,zw e.ino f.xs=true) (fun k=>f.xs[i].es.length-k) 0 ⟨Nat.zero_le _,fun x hx=>by simp at hx⟩ ?_ ?_
   ·exact wk
   ·rintro k ⟨h3,h4⟩
    by_cases hk:k<f.xs[i].es.length
    ·have g2:=jn f.xs[i].es k hk
     push_cast -dsimp [g1,hle,hk,g2]
     repeat refine an ?_
     refine cl (Jg f f.xs[i].es[k].ino (by omega)) ?_;push_cast -dsimp
     cases hh:zw f.xs[i].es[k].ino f.xs with
     | true =>
      push_cast -dsimp [hh]
      repeat refine an ?_
      exact ⟨k+1,⟨hk,zO hk h4 hh⟩,by omega,wk⟩
     | false =>
      have hn:¬JI f:=fun h'=>by have:=h' _ (List.getElem_mem h) _ (List.getElem_mem hk);rw[hh]at this;cases this
      push_cast -dsimp [hh]
      exact dn (by push_cast -dsimp [zb,za,CLe,ze,hn])
    ·rw[List.take_of_length_le (by omega)]at h4
     push_cast -dsimp [g1,hle,hk]
     repeat refine an ?_
     exact ⟨i+1,⟨h,zO h h2 h4⟩,by omega,wk⟩
  ·rw[List.take_of_length_le (by omega)]at h2
   have hn:JI f:=h2
   push_cast -dsimp [hll,h]
   exact dn (by push_cast -dsimp [zb,za,CLe,ze,hn])
theorem vq (f:FsV) (hf:FsS f) (hb:zQ f.xs<=100000000):Fun Tryz.prog G 142 [.agg (fsC f),.sc (.int .i64 0),.sc (.int .i64 0)] (.sc (.bool (decide (UJ f)))) 0:=by
 have hll:(zD f.xs).length=f.xs.length:=List.length_map ..
 have h40:=hf.len
 refine fon Tryz.func142 ?_;dsimp only[Tryz.f142]
 by_cases c1:f.maxI<f.xs.length
 ·have hn:¬UJ f:=fun h=>by have:=h.1;omega
  push_cast -dsimp [hll,c1]
  repeat refine an ?_
  exact dn (by push_cast -dsimp [zb,za,CLe,ze,hn])
 ·have hn:UJ f↔(zQ f.xs:Int)<=f.maxB:=⟨fun h=>h.2,fun h=>⟨by omega,h⟩⟩
  push_cast -dsimp [hll,c1]
  repeat refine an ?_
  refine cl (N4 f hf) ?_;push_cast -dsimp
  repeat refine an ?_
  exact dn (by push_cast -dsimp [zb,za,CLe,ze,hn])
end
end
section
open Go.RowKit
abbrev Zu (x:zn) (es:List zH):List (Int×Int):=es.map fun e=>(e.ino,x.ino)
def zM (xs:List zn):List (Int×Int):=xs.flatMap fun x=>Zu x x.es
def X6 (n:Int) (l:List (Int×Int)):Nat:=(l.filter fun p=>p.1==n).length
def Z0 (n:Int) (l:List (Int×Int)):Int:=(((l.filter fun p=>p.1==n).getLast?).map (·.2)).getD 0
theorem zjK {n:Int} {l:List (Int×Int)} {p:Int×Int}:X6 n (l++[p])=X6 n l+if p.1=n then 1 else 0:=by
 unfold X6
 rw[List.filter_append,List.length_append]
 by_cases h:p.1=n<;>simp[h]
theorem zhE {n:Int} {l:List (Int×Int)} {p:Int×Int}:Z0 n (l++[p])=if p.1=n then p.2 else Z0 n l:=by
 unfold Z0
 rw[List.filter_append]
 by_cases h:p.1=n<;>simp[h]
theorem zaX {xs:List zn} {i:Nat} (h:i<xs.length):zM (xs.take (i+1))=zM (xs.take i)++Zu xs[i] xs[i].es:=by
 unfold zM
 rw[List.take_add_one,List.getElem?_eq_getElem h,List.flatMap_append]
 simp
theorem zao {x:zn} {es:List zH} {k:Nat} (h:k<es.length):Zu x (es.take (k+1))=Zu x (es.take k)++[(es[k].ino,x.ino)]:=by
 rw[List.take_add_one,List.getElem?_eq_getElem h,Option.toList_some]
 exact List.map_append
theorem ze5 {xs:List zn} (hf:∀ x∈xs,x.es.length<=10000):(zM xs).length<=xs.length*10000:=by
 induction xs with
 | nil=>exact Nat.le_refl _
 | cons x r ih =>
  have h1:=hf x List.mem_cons_self
  have h2:=ih fun y hy=>hf y (List.mem_cons_of_mem _ hy)
  unfold zM at h2 ⊢
  rw[List.flatMap_cons,List.length_append,List.length_map,List.length_cons]
  omega
theorem zm8 {n:Int} {l:List (Int×Int)}:X6 n l<=l.length:=List.length_filter_le _ _
def Zk (xs:List zn) (x:zn):Prop:=x.links=X6 x.ino (zM xs)/\if x.ino=1 then X6 x.ino (zM xs)=0/\x.parent=1 else 1<=X6 x.ino (zM xs)/\(x.kind=2->X6 x.ino (zM xs)=1/\x.parent=Z0 x.ino (zM xs))
instance (xs:List zn) (x:zn):Decidable (Zk xs x):=by unfold Zk;infer_instance
def JZ (f:FsV):Prop:=∀ x∈f.xs,Zk f.xs x
instance (f:FsV):Decidable (JZ f):=by unfold JZ;infer_instance
section
variable {G:zk}
theorem ux (f:FsV) (n:Int) (hf:FsS f):Fun Tryz.prog G 203 [.agg (fsC f),.sc (.int .i64 n)] (.tup [.sc (.int .i64 (X6 n (zM f.xs):Nat)),.sc (.int .i64 (Z0 n (zM f.xs)))]) 0:=by
 have hll:(zD f.xs).length=f.xs.length:=List.length_map ..
 have h40:=hf.len
 have hc0:X6 n (zM [])=0:=rfl
 have hl0:Z0 n (zM [])=0:=rfl
 refine fon Tryz.func203 ?_;dsimp only[Tryz.f203]
 push_cast -dsimp
 refine loop (fun i:Nat=>⟨[(1,.sc (.int .i64 n)),(2,.ptr 0 0),(6,.sc (.int .i64 (X6 n (zM (f.xs.take i)):Nat))),(7,.sc (.int .i64 (Z0 n (zM (f.xs.take i))))),(8,.sc (.int .i64 i))],[fsC f],0,0⟩) (fun i=>i<=f.xs.length) (fun i=>f.xs.length-i) 0 (Nat.zero_le _) ?_ ?_
 ·exact wk (by push_cast -dsimp [zb,za,CLe,ze,List.take_zero,hc0,hl0])
 ·intro i h1
  by_cases h:i<f.xs.length
  ·have g1:=qx f.xs i h
   have hle:(zE f.xs[i].es).length=f.xs[i].es.length:=List.length_map ..
   have hpl:(zM (f.xs.take i)).length<=i*10000:=by
    have:=ze5 (xs:=f.xs.take i) fun x hx=>(hf.node x (List.mem_of_mem_take hx)).1
    rw[List.length_take]at this
    exact Nat.le_trans this (Nat.mul_le_mul_right _ (Nat.min_le_left _ _))
   have h40e:=(hf.node _ (List.getElem_mem h)).1
   push_cast -dsimp [hll,h]
   refine loop (fun k:Nat=>⟨[(1,.sc (.int .i64 n)),(2,.ptr 0 0),(6,.sc (.int .i64 (X6 n (zM (f.xs.take i)++Zu f.xs[i] (f.xs[i].es.take k)):Nat))),(7,.sc (.int .i64 (Z0 n (zM (f.xs.take i)++Zu f.xs[i] (f.xs[i].es.take k))))),(8,.sc (.int .i64 i)),(9,.sc (.int .i64 k))],[fsC f],0,0⟩) (fun k=>k<=f.xs[i].es.length) (fun k=>f.xs[i].es.length-k) 0 (Nat.zero_le _) ?_ ?_
   ·exact wk (by push_cast -dsimp [zb,za,CLe,ze,List.take_zero,List.append_nil])
   ·intro k hk0
    by_cases hk:k<f.xs[i].es.length
    ·have g2:=jn f.xs[i].es k hk
     have ht:=zao (x:=f.xs[i]) hk
     have hcl:=zm8 (n:=n) (l:=zM (f.xs.take i)++Zu f.xs[i] (f.xs[i].es.take k))
     rw[List.length_append,List.length_map,List.length_take]at hcl
     have hca:=zjK (n:=n) (l:=zM (f.xs.take i)++Zu f.xs[i] (f.xs[i].es.take k)) (p:=(f.xs[i].es[k].ino,f.xs[i].ino))
     have hla:=zhE (n:=n) (l:=zM (f.xs.take i)++Zu f.xs[i] (f.xs[i].es.take k)) (p:=(f.xs[i].es[k].ino,f.xs[i].ino))
     rw[List.append_assoc,←ht]at hca hla
     by_cases hc:f.xs[i].es[k].ino=n
     ·rw[if_pos hc]at hca hla
      push_cast -dsimp [g1,hle,hk,g2,hc]
      repeat refine an ?_
      exact ⟨k+1,hk,by omega,wk (by push_cast -dsimp [zb,za,CLe,ze,hca,hla])⟩
     ·rw[if_neg hc]at hca hla
      push_cast -dsimp [g1,hle,hk,g2,hc]
      repeat refine an ?_
      exact ⟨k+1,hk,by omega,wk (by push_cast -dsimp [zb,za,CLe,ze,hca,hla])⟩
    ·have hkk:f.xs[i].es.take k=f.xs[i].es:=List.take_of_length_le (by omega)
     rw[hkk]
     have ht:=zaX h
     push_cast -dsimp [g1,hle,hk]
     repeat refine an ?_
     exact ⟨i+1,h,by omega,wk (by push_cast -dsimp [zb,za,CLe,ze,ht])⟩
  ·rw[List.take_of_length_le (by omega)]
   push_cast -dsimp [hll,h]
   exact dn
end
end
section
open CA CB
open Go.RowKit
section
variable {G:zk}
theorem UZ (f:FsV) (hf:FsS f):Fun Tryz.prog G 165 [.agg (fsC f)] (.sc (.bool (decide (JZ f)))) 0:=by
 have hll:(zD f.xs).length=f.xs.length:=List.length_map ..
 have h40:=hf.len
 refine fon Tryz.func165 ?_;dsimp only[Tryz.f165]
 push_cast -dsimp
 refine loop (fun i:Nat=>⟨[(1,.ptr 0 0),(3,.sc (.int .i64 i))],[fsC f],0,0⟩) (fun i=>i<=f.xs.length/\∀ x∈f.xs.take i,Zk f.xs x) (fun i=>f.xs.length-i) 0 ⟨Nat.zero_le _,fun x hx=>by simp at hx⟩ ?_ ?_
 ·exact wk
 ·rintro i ⟨h1,h2⟩
  by_cases h:i<f.xs.length
  ·have g1:=qx f.xs i h
   have hbad:¬Zk f.xs f.xs[i]->¬JZ f:=fun hn h'=>hn (h' _ (List.getElem_mem h))
   have hdef:Zk f.xs f.xs[i]↔f.xs[i].links=X6 f.xs[i].ino (zM f.xs)/\if f.xs[i].ino=1 then X6 f.xs[i].ino (zM f.xs)=0/\f.xs[i].parent=1 else 1<=X6 f.xs[i].ino (zM f.xs)/\(f.xs[i].kind=2->X6 f.xs[i].ino (zM f.xs)=1/\f.xs[i].parent=Z0 f.xs[i].ino (zM f.xs)):=Iff.rfl
   push_cast -dsimp [hll,h,g1]
   repeat refine an ?_
   refine cl (ux f f.xs[i].ino hf) ?_;push_cast -dsimp
   generalize X6 f.xs[i].ino (zM f.xs)=c at hdef
   generalize Z0 f.xs[i].ino (zM f.xs)=d at hdef
   by_cases c1:f.xs[i].links=(c:Int)
   case neg =>
    have hn:=hbad fun h=>c1 (hdef.1 h).1
    push_cast -dsimp [c1]
    exact dn (by push_cast -dsimp [zb,za,CLe,ze,hn])
   by_cases c2:f.xs[i].ino=1
   ·rw[if_pos c2]at hdef
    by_cases c3:(c:Int)=0
    ·by_cases c4:f.xs[i].parent=1
     ·push_cast -dsimp [c1,c2,c3,c4]
      repeat refine an ?_
      exact ⟨i+1,⟨h,zO h h2 (hdef.2 ⟨c1,by omega,c4⟩)⟩,by omega,wk⟩
     ·have hn:=hbad fun h=>c4 (hdef.1 h).2.2
      push_cast -dsimp [c1,c2,c3,c4]
      exact dn (by push_cast -dsimp [zb,za,CLe,ze,hn])
    ·have hn:=hbad fun h=>by have:=(hdef.1 h).2.1;omega
     push_cast -dsimp [c1,c2,c3]
     exact dn (by push_cast -dsimp [zb,za,CLe,ze,hn])
   ·rw[if_neg c2]at hdef
    by_cases c3:(c:Int)<1
    ·have hn:=hbad fun h=>by have:=(hdef.1 h).2.1;omega
     push_cast -dsimp [c1,c2,c3]
     exact dn (by push_cast -dsimp [zb,za,CLe,ze,hn])
    by_cases c4:f.xs[i].kind=2
    ·by_cases c5:(c:Int)=1
     ·by_cases c6:f.xs[i].parent=d
      ·push_cast -dsimp [c1,c2,c3,c4,c5,c6]
       repeat refine an ?_
       exact ⟨i+1,⟨h,zO h h2 (hdef.2 ⟨c1,by omega,fun _=>⟨by omega,c6⟩⟩)⟩,by omega,wk⟩
      ·have hn:=hbad fun h=>c6 ((hdef.1 h).2.2 c4).2
       push_cast -dsimp [c1,c2,c3,c4,c5,c6]
       exact dn (by push_cast -dsimp [zb,za,CLe,ze,hn])
     ·have hn:=hbad fun h=>by have:=((hdef.1 h).2.2 c4).1;omega
      push_cast -dsimp [c1,c2,c3,c4,c5]
      exact dn (by push_cast -dsimp [zb,za,CLe,ze,hn])
    ·push_cast -dsimp [c1,c2,c3,c4]
     repeat refine an ?_
     exact ⟨i+1,⟨h,zO h h2 (hdef.2 ⟨c1,by omega,fun h=>absurd h c4⟩)⟩,by omega,wk⟩
  ·rw[List.take_of_length_le (by omega)]at h2
   have hn:JZ f:=h2
   push_cast -dsimp [hll,h]
   exact dn (by push_cast -dsimp [zb,za,CLe,ze,hn])
end
end
section
open CA CB
open Go.RowKit
abbrev zav (S:List Int):List (List C):=S.map fun n=>[C.sc (.int .i64 n)]
def JL (S:List Int) (n:Int):List Int:=if n∈S then S else S++[n]
def Uy (S:List Int) (es:List zH):List Int:=es.foldl (fun s e=>JL s e.ino) S
def X4 (xs:List zn):Nat->Nat->List Int->List Int
 | 0,_,S=>S
 | m+1,i,S=>match S[i]? with
  | some n=>X4 xs m (i+1) (Uy S (zf n xs).es)
  | none=>S
def XO (f:FsV):Prop:=(X4 f.xs (f.xs.length+1) 0 [1]).length=f.xs.length
instance (f:FsV):Decidable (XO f):=by unfold XO;infer_instance
theorem Z7:∀ {S T:List Int},S.Nodup->(∀ n∈S,n∈T)->S.length<=T.length
 | [],T,_,_=>Nat.zero_le _
 | a :: r,T,hn,hs=>by
  have ha:=hs a List.mem_cons_self
  obtain ⟨h1,h2⟩:=List.nodup_cons.1 hn
  have:=Z7 (S:=r) (T:=T.erase a) h2 fun n hr=>(List.mem_erase_of_ne (fun e=>h1 (by rw[←e];exact hr))).2 (hs n (List.mem_cons_of_mem _ hr))
  rw[List.length_erase_of_mem ha]at this
  have hpos:=List.length_pos_iff.2 (List.ne_nil_of_mem ha)
  rw[List.length_cons];omega
theorem HX {n:Int} {xs:List zn}:zw n xs=true↔n∈xs.map (·.ino):=by
 unfold zw
 rw[List.any_eq_true,List.mem_map]
 simp
theorem Qk {S:List Int} {xs:List zn} (hn:S.Nodup) (hs:∀ n∈S,zw n xs=true):S.length<=xs.length:=by
 have:=Z7 (T:=xs.map (·.ino)) hn fun n h=>HX.1 (hs n h)
 rwa [List.length_map]at this
theorem GH {S:List Int} {n:Int} (h:S.Nodup):(JL S n).Nodup:=by
 unfold JL
 split
 ·exact h
 ·rw[List.nodup_append]
  refine ⟨h,by simp,fun a ha b hb e=>?_⟩
  simp at hb;subst hb;subst e;contradiction
theorem kg {S:List Int} {n m:Int}:m∈JL S n↔m∈S∨m=n:=by
 unfold JL
 split
 ·constructor
  ·exact .inl
  ·rintro (h | h)
   ·exact h
   ·rw[h];assumption
 ·simp
theorem qG {n:Int} {xs:List zn} (h:zw n xs=true):zf n xs∈xs/\(zf n xs).ino=n:=by
 unfold zw at h
 unfold zf X1
 cases hq:xs.find? fun x=>x.ino==n with
 | none =>
  rw[List.find?_eq_none]at hq
  obtain ⟨x,hx,he⟩:=List.any_eq_true.1 h
  exact absurd he (hq x hx)
 | some y =>
  exact ⟨List.mem_of_find?_eq_some hq,by simpa using List.find?_some hq⟩
theorem zc0 {S:List Int} {es:List zH} {k:Nat} (h:k<es.length):Uy S (es.take (k+1))=JL (Uy S (es.take k)) es[k].ino:=by
 unfold Uy
 rw[List.take_add_one,List.getElem?_eq_getElem h,List.foldl_append]
 rfl
theorem ziA (es:List zH):∀ (S:List Int),S <+: Uy S es:=by
 induction es with
 | nil=>exact fun S=>List.prefix_refl S
 | cons e r ih =>
  intro S
  refine List.IsPrefix.trans ?_ (ih (JL S e.ino))
  unfold JL
  split
  ·exact List.prefix_refl S
  ·exact List.prefix_append S _
theorem zh3 (S:List Int) (es:List zH):S.length<=(Uy S es).length:=(ziA es S).length_le
structure JP (xs:List zn) (S:List Int):Prop where
 nodup:S.Nodup
 has:∀ n∈S,zw n xs=true
theorem JP.len {xs:List zn} {S:List Int} (h:JP xs S):S.length<=xs.length:=Qk h.nodup h.has
theorem JP.one {xs:List zn} {S:List Int} {n:Int} (h:JP xs S) (hn:zw n xs=true):JP xs (JL S n):=⟨GH h.nodup,fun m hm=>by
 rcases kg.1 hm with hm | rfl
 ·exact h.has m hm
 ·exact hn⟩
theorem zbO {S:List Int} {n:Int} {j:Nat} (h:j<S.length):((S.take (j+1)).any fun m=>decide (m=n))=(((S.take j).any fun m=>decide (m=n))||decide (S[j]=n)):=by
 rw[List.take_add_one,List.getElem?_eq_getElem h,List.any_append]
 simp
theorem zlu {S:List Int} {n:Int}:(S.any fun m=>decide (m=n))=decide (n∈S):=by
 rw[Bool.eq_iff_iff,List.any_eq_true,decide_eq_true_iff]
 constructor
 ·rintro ⟨m,hm,h⟩;exact (of_decide_eq_true h)▸hm
 ·exact fun h=>⟨n,h,decide_eq_true rfl⟩
theorem yH (S:List Int) (i:Nat) (h:i<S.length):(zav S)[i]?=some [.sc (.int .i64 S[i])]:=by simp[List.getElem?_map,List.getElem?_eq_getElem h]
section
variable {G:zk}
theorem Nq (f:FsV) (hf:FsS f) (h3:JI f) (h1:zw 1 f.xs=true):Fun Tryz.prog G 166 [.agg (fsC f)] (.sc (.bool (decide (XO f)))) 0:=by
 have hll:(zD f.xs).length=f.xs.length:=List.length_map ..
 have h40:=hf.len
 refine fof (fun i=>if i=5 then YU 9 10 else []) Tryz.func166 ?_;dsimp only[Tryz.f166]
 push_cast -dsimp
 refine loop (fun p:Nat×List Int=>⟨[(1,.ptr 0 0),(3,.own 0 3 1 (zav p.2)),(4,.sc (.int .i64 p.1))],[fsC f],1,0⟩) (fun p=>p.1<=p.2.length/\JP f.xs p.2/\X4 f.xs (f.xs.length+1-p.1) p.1 p.2=X4 f.xs (f.xs.length+1) 0 [1]) (fun p=>f.xs.length+1-p.1) (0,[1]) ⟨Nat.zero_le _,⟨by simp,fun n hn=>by simp at hn;subst hn;exact h1⟩,rfl⟩ ?_ ?_
 ·exact wks [.inl 0]
 ·rintro ⟨i,S⟩ ⟨k1,k2,k3⟩
  dsimp only at k1 k2 k3 ⊢
  have hSl:=k2.len
  have hli:(zav S).length=S.length:=List.length_map ..
  by_cases h:i<S.length
  ·have g0:=yH S i h
   obtain ⟨hm,hino⟩:=qG (k2.has S[i] (List.getElem_mem h))
   push_cast -dsimp [hli,h,g0]
   repeat refine an ?_
   refine cl (Jg f S[i] (by omega)) ?_;push_cast -dsimp
   rw[show f.xs.length+1-i=(f.xs.length+1-(i+1))+1 by omega,X4,List.getElem?_eq_getElem h]at k3
   dsimp only at k3
   generalize zf S[i] f.xs=x at hm hino k3
   have hx40:=(hf.node x hm).1
   have hle:(zE x.es).length=x.es.length:=List.length_map ..
   refine loop (fun k:Nat=>⟨[(1,.ptr 0 0),(3,.own 0 3 1 (zav (Uy S (x.es.take k)))),(4,.sc (.int .i64 i)),(5,.ptr 1 0),(7,.sc (.int .i64 k))],[fsC f,JD x],1,0⟩) (fun k=>k<=x.es.length/\JP f.xs (Uy S (x.es.take k))) (fun k=>x.es.length-k) 0 ⟨Nat.zero_le _,k2⟩ ?_ ?_
   ·exact wks [.inl 0] (by push_cast -dsimp [zb,za,CLe,ze,List.take_zero,Uy,List.foldl_nil])
   ·rintro k ⟨hk0,k4⟩
    by_cases hk:k<x.es.length
    ·have g2:=jn x.es k hk
     have hT:=k4.len
     have ht:=zc0 (S:=S) hk
     have hhas:zw x.es[k].ino f.xs=true:=h3 x hm _ (List.getElem_mem hk)
     have k5:=k4.one hhas
     rw[←ht]at k5
     generalize hT1:Uy S (x.es.take (k+1))=T1 at ht k5
     generalize Uy S (x.es.take k)=T at k4 hT ht
     have hlT:(zav T).length=T.length:=List.length_map ..
     generalize hn:x.es[k].ino=n at g2 ht
     push_cast -dsimp [hle,hk]
     refine loop (fun j:Nat=>⟨[(1,.ptr 0 0),(3,.own 0 3 1 (zav T)),(4,.sc (.int .i64 i)),(5,.ptr 1 0),(7,.sc (.int .i64 k)),(8,.sc (.bool ((T.take j).any fun m=>decide (m=n)))),(9,.sc (.int .i64 j))],[fsC f,JD x],1,0⟩) (fun j=>j<=T.length) (fun j=>T.length-j) 0 (Nat.zero_le _) ?_ ?_
     ·exact wks [.inl 0] (by push_cast -dsimp [zb,za,CLe,ze,List.take_zero,List.any_nil])
     ·intro j hj0
      by_cases hj:j<T.length
      ·have g3:=yH T j hj
       have ha:=zbO (n:=n) hj
       by_cases hq:((T.take j).any fun m=>decide (m=n))=true
       ·rw[hq,Bool.true_or]at ha
        push_cast -dsimp [hlT,hj,hq]
        repeat refine an ?_
        exact ⟨j+1,hj,by omega,wks [.inl 0] (by push_cast -dsimp [zb,za,CLe,ze,ha])⟩
       ·have hq:=Bool.eq_false_iff.2 hq
        rw[hq,Bool.false_or]at ha
        push_cast -dsimp [hlT,hj,hq,g3,g2,hn]
        repeat refine an ?_
        exact ⟨j+1,hj,by omega,wks [.inl 0] (by push_cast -dsimp [zb,za,CLe,ze,ha])⟩
      ·have hTj:(T.take j)=T:=List.take_of_length_le (by omega)
       have hany:=zlu (S:=T) (n:=n)
       unfold JL at ht
       by_cases hin:n∈T
       ·rw[if_pos hin]at ht
        rw[decide_eq_true hin]at hany
        push_cast -dsimp [hlT,hj,hTj,hany]
        repeat refine an ?_
        exact ⟨k+1,⟨hk,by rw[hT1];exact k5⟩,by omega,wks [.inl 0] (by push_cast -dsimp [zb,za,CLe,ze,hT1,ht])⟩
       ·rw[if_neg hin]at ht
        rw[decide_eq_false hin]at hany
        push_cast -dsimp [hlT,hj,hTj,hany,g2,hn]
        repeat refine an ?_
        exact ⟨k+1,⟨hk,by rw[hT1];exact k5⟩,by omega,wks [.inl 0] (by push_cast -dsimp [zb,za,CLe,ze,hT1,ht,List.map_append])⟩
    ·have hkk:x.es.take k=x.es:=List.take_of_length_le (by omega)
     rw[hkk]at k4
     have hge:i+1<=(Uy S x.es).length:=Nat.le_trans h (zh3 S x.es)
     push_cast -dsimp [hle,hk,hkk]
     repeat refine an ?_
     exact ⟨(i+1,Uy S x.es),⟨hge,k4,k3⟩,by dsimp only;omega,wks [.inl 0]⟩
  ·push_cast -dsimp [hli,h]
   have hfin:X4 f.xs (f.xs.length+1-i) i S=S:=by
    rw[show f.xs.length+1-i=(f.xs.length-i)+1 by omega,X4,List.getElem?_eq_none (by omega)]
   rw[hfin]at k3
   have hn:XO f↔S.length=f.xs.length:=by unfold XO;rw[←k3]
   exact dn (by push_cast -dsimp [zb,za,CLe,ze,hn,hll])
end
end
section
open CA CB
open Go.RowKit
def Ya (es:List zH):Prop:=∀ i (h:i<es.length),may es[i].name=true/\1<=es[i].ino/\(0<i->Op.bytesLess es[i-1].name es[i].name=true)
instance (es:List zH):Decidable (Ya es):=by unfold Ya;infer_instance
def J0 (x:zn):Prop:=(x.kind=1∨x.kind=2∨x.kind=3)/\(x.kind≠2->x.es = []/\x.parent=0)/\(x.kind=2->x.data = []/\Ya x.es)/\(x.kind=3->1<=x.data.length/\x.data.length<=4095/\∀ b∈x.data,b≠0)
instance (x:zn):Decidable (J0 x):=by unfold J0;infer_instance
def JX (f:FsV):Prop:=∀ x∈f.xs,J0 x
instance (f:FsV):Decidable (JX f):=by unfold JX;infer_instance
def jR (f:FsV):Int:=if jQ f then if JX f then if JI f then if JZ f then if XO f then if UJ f then 0 else 6 else 5 else 4 else 3 else 2 else 1
def okV (f:FsV):Prop:=UO f.xs/\jR f=0
instance (f:FsV):Decidable (okV f):=by unfold okV;infer_instance
theorem zfb (es:List zH) (hl:es.length<=100000) (hn:∀ e∈es,e.name.length<=1000000):Fun Tryz.prog G0 202 [.sl 2 (zE es)] (qh (decide (Ya es))) 0:=by
 have hle:(zE es).length=es.length:=List.length_map ..
 refine fon Tryz.func202 ?_;dsimp only[Tryz.f202]
 push_cast -dsimp
 refine loop (fun i:Nat=>⟨[(0,.sl 2 (zE es)),(3,.sc (.int .i64 i))],[],0,0⟩) (fun i=>i<=es.length/\∀ j (h:j<es.length),j<i->may es[j].name=true/\1<=es[j].ino/\(0<j->Op.bytesLess es[j-1].name es[j].name=true)) (fun i=>es.length-i) 0 ⟨Nat.zero_le _,fun j h h'=>absurd h' (Nat.not_lt_zero _)⟩ ?_ ?_
 ·exact wk
 ·rintro i ⟨h1,h2⟩
  by_cases h:i<es.length
  ·have g1:=jn es i h
   have hm:=Zn es[i].name (by have:=hn _ (List.getElem_mem h);omega)
   push_cast -dsimp [hle,h,g1]
   repeat refine an ?_
   cases c1:may es[i].name with
   | false =>
    have hno:¬Ya es:=fun hr=>by have:=(hr i h).1;rw[c1]at this;cases this
    refine cl (hm) ?_;push_cast -dsimp [c1]
    exact dn (by push_cast -dsimp [zb,za,CLe,ze,hno])
   | true =>
    by_cases c2:es[i].ino<1
    ·have hno:¬Ya es:=fun hr=>by have:=(hr i h).2.1;omega
     refine cl (hm) ?_;push_cast -dsimp [c1,g1,c2]
     repeat refine an ?_
     exact dn (by push_cast -dsimp [zb,za,CLe,ze,hno])
    ·have step:(0<i->Op.bytesLess es[i-1].name es[i].name=true)->∀ j (h:j<es.length),j<i+1->may es[j].name=true/\1<=es[j].ino/\(0<j->Op.bytesLess es[j-1].name es[j].name=true):=fun hb j hj hlt=>by
      rcases Nat.lt_or_ge j i with q | q
      ·exact h2 j hj q
      ·have:j=i:=by omega
       subst this
       exact ⟨c1,by omega,hb⟩
     by_cases c3:0<i
     ·have g2:=jn es (i-1) (by omega)
      have e1:(i:Int)-1=((i-1:Nat):Int):=by omega
      cases c4:Op.bytesLess es[i-1].name es[i].name with
      | true =>
       refine cl (hm) ?_;push_cast -dsimp [c1,g1,c2]
       repeat refine an ?_
       push_cast -dsimp [c3,e1,g2,g1,c4]
       repeat refine an ?_
       exact ⟨i+1,⟨h,step fun _=>c4⟩,by omega,wk⟩
      | false =>
       have hno:¬Ya es:=fun hr=>by have:=(hr i h).2.2 c3;rw[c4]at this;cases this
       refine cl (hm) ?_;push_cast -dsimp [c1,g1,c2]
       repeat refine an ?_
       push_cast -dsimp [c3,e1,g2,g1,c4]
       repeat refine an ?_
       exact dn (by push_cast -dsimp [zb,za,CLe,ze,hno])
     ·refine cl (hm) ?_;push_cast -dsimp [c1,g1,c2]
      repeat refine an ?_
      push_cast -dsimp [c3]
      repeat refine an ?_
      exact ⟨i+1,⟨h,step fun h=>absurd h c3⟩,by omega,wk⟩
  ·have hr:Ya es:=fun j hj=>h2 j hj (by omega)
   push_cast -dsimp [hle,h]
   exact dn (by push_cast -dsimp [zb,za,CLe,ze,hr])
end
section
open CA CB
open Go.RowKit
theorem US (f:FsV) (hf:FsS f):Fun Tryz.prog G0 163 [.agg (fsC f)] (qh (decide (JX f))) 0:=by
 have hll:(zD f.xs).length=f.xs.length:=List.length_map ..
 have h40:=hf.len
 refine fon Tryz.func163 ?_;dsimp only[Tryz.f163]
 push_cast -dsimp
 refine loop (fun i:Nat=>⟨[(1,.ptr 0 0),(3,.sc (.int .i64 i))],[fsC f],0,0⟩) (fun i=>i<=f.xs.length/\∀ x∈f.xs.take i,J0 x) (fun i=>f.xs.length-i) 0 ⟨Nat.zero_le _,fun x hx=>by simp at hx⟩ ?_ ?_
 ·exact wk
 ·rintro i ⟨h1,h2⟩
  by_cases h:i<f.xs.length
  case neg =>
   rw[List.take_of_length_le (by omega)]at h2
   have hn:JX f:=h2
   push_cast -dsimp [hll,h]
   exact dn (by push_cast -dsimp [zb,za,CLe,ze,hn])
  have g1:=qx f.xs i h
  have hbad:¬J0 f.xs[i]->¬JX f:=fun hn h'=>hn (h' _ (List.getElem_mem h))
  have hs:=hf.node _ (List.getElem_mem h)
  have step:J0 f.xs[i]->∀ x∈f.xs.take (i+1),J0 x:=fun hq=>zO h h2 hq
  push_cast -dsimp [hll,h,g1]
  repeat refine an ?_
  generalize f.xs[i]=x at g1 hbad hs step
  have hle:(zE x.es).length=x.es.length:=List.length_map ..
  have hent:x.es.length<=10000:=hs.1
  by_cases k2:x.kind=2
  ·by_cases d0:x.data = []
   ·have hr:=zfb x.es (by omega) fun e he=>by have:=hs.2.2 e he;omega
    cases c1:decide (Ya x.es) with
    | false =>
     have hn:=hbad fun hq=>of_decide_eq_false c1 (hq.2.2.1 k2).2
     push_cast -dsimp [k2,d0]
     refine cl (hr) ?_;push_cast -dsimp [c1]
     exact dn (by push_cast -dsimp [zb,za,CLe,ze,hn])
    | true =>
     have hq:J0 x:=⟨.inr (.inl k2),fun h=>absurd k2 h,fun _=>⟨d0,of_decide_eq_true c1⟩,fun h=>by omega⟩
     push_cast -dsimp [k2,d0]
     refine cl (hr) ?_;push_cast -dsimp [c1,k2]
     refine loop (fun j:Nat=>⟨[(1,.ptr 0 0),(3,.sc (.int .i64 i)),(4,.ptr 1 0),(5,.sc (.int .i64 j))],[fsC f,JD x],0,0⟩) (fun j=>j=0) (fun j=>0) 0 rfl ?_ ?_
     ·exact wk (by push_cast -dsimp [zb,za,CLe,ze,k2,d0]) (by push_cast -dsimp [zb,za,CLe,ze,k2,d0])
     ·rintro j rfl
      push_cast -dsimp [d0]
      repeat refine an ?_
      exact ⟨i+1,⟨h,step hq⟩,by omega,wk⟩
   ·have hn:=hbad fun hq=>d0 (hq.2.2.1 k2).1
    push_cast -dsimp [k2,d0]
    exact dn (by push_cast -dsimp [zb,za,CLe,ze,hn])
  by_cases e0:x.es = []
  case neg =>
   have hn:=hbad fun hq=>e0 (hq.2.1 k2).1
   have hpos:0<(x.es.length:Int):=by have:=List.length_pos_iff.2 e0;omega
   by_cases k1:x.kind=1
   ·push_cast -dsimp [k1,hle,hpos]
    exact dn (by push_cast -dsimp [zb,za,CLe,ze,hn])
   ·by_cases k3:x.kind=3
    ·push_cast -dsimp [k1,k2,k3,hle,hpos]
     exact dn (by push_cast -dsimp [zb,za,CLe,ze,hn])
    ·have hn:=hbad fun hq=>by rcases hq.1 with q | q | q<;>contradiction
     push_cast -dsimp [k1,k2,k3]
     exact dn (by push_cast -dsimp [zb,za,CLe,ze,hn])
  have hl0:x.es.length=0:=by rw[e0];rfl
  by_cases p0:x.parent=0
  case neg =>
   have hn:=hbad fun hq=>p0 (hq.2.1 k2).2
   by_cases k1:x.kind=1
   ·push_cast -dsimp [k1,hle,hl0,p0]
    exact dn (by push_cast -dsimp [zb,za,CLe,ze,hn])
   ·by_cases k3:x.kind=3
    ·push_cast -dsimp [k1,k2,k3,hle,hl0,p0]
     exact dn (by push_cast -dsimp [zb,za,CLe,ze,hn])
    ·have hn:=hbad fun hq=>by rcases hq.1 with q | q | q<;>contradiction
     push_cast -dsimp [k1,k2,k3]
     exact dn (by push_cast -dsimp [zb,za,CLe,ze,hn])
  by_cases k1:x.kind=1
  ·have hq:J0 x:=⟨.inl k1,fun _=>⟨e0,p0⟩,fun h=>absurd h k2,fun h=>by omega⟩
   push_cast -dsimp [k1,hle,hl0,p0]
   refine loop (fun j:Nat=>⟨[(1,.ptr 0 0),(3,.sc (.int .i64 i)),(4,.ptr 1 0),(5,.sc (.int .i64 j))],[fsC f,JD x],0,0⟩) (fun j=>j=0) (fun j=>0) 0 rfl ?_ ?_
   ·exact wk (by push_cast -dsimp [zb,za,CLe,ze,k1,p0]) (by push_cast -dsimp [zb,za,CLe,ze,k1,p0])
   ·rintro j rfl
    by_cases hd:(0:Int)<x.data.length
    ·push_cast -dsimp [hd,k1]
     repeat refine an ?_
     exact ⟨i+1,⟨h,step hq⟩,by omega,wk⟩
    ·push_cast -dsimp [hd,k1]
     repeat refine an ?_
     exact ⟨i+1,⟨h,step hq⟩,by omega,wk⟩
  by_cases k3:x.kind=3
  case neg =>
   have hn:=hbad fun hq=>by rcases hq.1 with q | q | q<;>contradiction
   push_cast -dsimp [k1,k2,k3]
   exact dn (by push_cast -dsimp [zb,za,CLe,ze,hn])
  by_cases l1:(x.data.length:Int)<1
  ·have hn:=hbad fun hq=>by have:=(hq.2.2.2 k3).1;omega
   push_cast -dsimp [k1,k2,k3,hle,hl0,p0,l1]
   exact dn (by push_cast -dsimp [zb,za,CLe,ze,hn])
  by_cases l2:4095<(x.data.length:Int)
  ·have hn:=hbad fun hq=>by have:=(hq.2.2.2 k3).2.1;omega
   push_cast -dsimp [k1,k2,k3,hle,hl0,p0,l1,l2]
   exact dn (by push_cast -dsimp [zb,za,CLe,ze,hn])
  push_cast -dsimp [k1,k2,k3,hle,hl0,p0,l1,l2]
  refine loop (fun j:Nat=>⟨[(1,.ptr 0 0),(3,.sc (.int .i64 i)),(4,.ptr 1 0),(5,.sc (.int .i64 j))],[fsC f,JD x],0,0⟩) (fun j=>j<=x.data.length/\∀ b∈x.data.take j,b≠0) (fun j=>x.data.length-j) 0 ⟨Nat.zero_le _,fun b hb=>by simp at hb⟩ ?_ ?_
  ·exact wk (by push_cast -dsimp [zb,za,CLe,ze,k3,p0]) (by push_cast -dsimp [zb,za,CLe,ze,k3,p0])
  ·rintro j ⟨j1,j2⟩
   by_cases hj:j<x.data.length
   ·have hb:x.data[j]?=some x.data[j]:=List.getElem?_eq_getElem hj
    by_cases z:(x.data[j].toNat:Int)=0
    ·have hn:=hbad fun hq=>(hq.2.2.2 k3).2.2 _ (List.getElem_mem hj) (UInt8.toNat_inj.1 (by simpa using z))
     push_cast -dsimp [hj,k3,hb,z]
     repeat refine an ?_
     exact dn (by push_cast -dsimp [zb,za,CLe,ze,hn])
    ·push_cast -dsimp [hj,k3,hb,z]
     repeat refine an ?_
     exact ⟨j+1,⟨hj,zO hj j2 fun hz=>z (by rw[hz];rfl)⟩,by omega,wk⟩
   ·rw[List.take_of_length_le (by omega)]at j2
    have hq:J0 x:=⟨.inr (.inr k3),fun _=>⟨e0,p0⟩,fun h=>absurd h k2,fun _=>⟨by omega,by omega,j2⟩⟩
    push_cast -dsimp [hj,k3]
    repeat refine an ?_
    exact ⟨i+1,⟨h,step hq⟩,by omega,wk⟩
theorem zdY (f:FsV) (hf:FsS f):Fun Tryz.prog G0 115 [.agg (fsC f)] (.sc (.int .i64 (jR f))) 0:=by
 have h40:=hf.len
 have hb:zQ f.xs<=100000000:=by have:=hf.bytes;omega
 refine fon Tryz.func115 ?_;dsimp only[Tryz.f115]
 push_cast -dsimp
 by_cases c1:jQ f
 case neg =>
  refine cl (NJ f (by omega)) ?_;push_cast -dsimp [decide_eq_false c1]
  exact dn (by push_cast -dsimp [zb,za,CLe,ze,jR,c1])
 refine cl (NJ f (by omega)) ?_;push_cast -dsimp [decide_eq_true c1]
 by_cases c2:JX f
 case neg =>
  refine cl (US f hf) ?_;push_cast -dsimp [decide_eq_false c2]
  exact dn (by push_cast -dsimp [zb,za,CLe,ze,jR,c1,c2])
 refine cl (US f hf) ?_;push_cast -dsimp [decide_eq_true c2]
 by_cases c3:JI f
 case neg =>
  refine cl (Nt f hf) ?_;push_cast -dsimp [decide_eq_false c3]
  exact dn (by push_cast -dsimp [zb,za,CLe,ze,jR,c1,c2,c3])
 refine cl (Nt f hf) ?_;push_cast -dsimp [decide_eq_true c3]
 by_cases c4:JZ f
 case neg =>
  refine cl (UZ f hf) ?_;push_cast -dsimp [decide_eq_false c4]
  exact dn (by push_cast -dsimp [zb,za,CLe,ze,jR,c1,c2,c3,c4])
 refine cl (UZ f hf) ?_;push_cast -dsimp [decide_eq_true c4]
 by_cases c5:XO f
 case neg =>
  refine cl (Nq f hf c3 c1.2.2.2.2.2.2.2.1) ?_;push_cast -dsimp [decide_eq_false c5]
  exact dn (by push_cast -dsimp [zb,za,CLe,ze,jR,c1,c2,c3,c4,c5])
 refine cl (Nq f hf c3 c1.2.2.2.2.2.2.2.1) ?_;push_cast -dsimp [decide_eq_true c5]
 by_cases c6:UJ f
 case neg =>
  refine cl (vq f hf hb) ?_;push_cast -dsimp [decide_eq_false c6]
  exact dn (by push_cast -dsimp [zb,za,CLe,ze,jR,c1,c2,c3,c4,c5,c6])
 refine cl (vq f hf hb) ?_;push_cast -dsimp [decide_eq_true c6]
 exact dn (by push_cast -dsimp [zb,za,CLe,ze,jR,c1,c2,c3,c4,c5,c6])
end
section
open CA CB
open Go.RowKit
def qR (x:zn) (k:jP):Bool:=decide (k.ino=x.ino)&&!k.content
def qe (w:zS) (x:zn):Prop:=zw x.ino w.fs.xs=false/\1<=x.ino/\x.ino<w.fs.next/\x.links=0/\x.parent=0/\x.es = []/\(x.kind=1∨x.kind=2∨x.kind=3)/\(x.kind=2->x.data = [])/\(x.kind=3->1<=x.data.length/\x.data.length<=4095/\∀ b∈x.data,b≠0)/\w.kept.any (qR x)=true
instance (w:zS) (x:zn):Decidable (qe w x):=by unfold qe;infer_instance
theorem zpa {α:Type} {P:α->Bool} {l:List α} {k:Nat} (h:k<l.length):(l.take (k+1)).any P=((l.take k).any P||P l[k]):=by
 rw[List.take_add_one,List.getElem?_eq_getElem h,List.any_append];simp
theorem zaS (w:zS) (x:zn) (hl:w.fs.xs.length<=100000) (hk:w.kept.length<=100000) (he:x.es.length<=100000) (hd:x.data.length<=100000):Fun Tryz.prog G0 117 [ZZ w,.agg (JD x)] (qh (decide (qe w x))) 0:=by
 have hg:=Jg (G:=G0) w.fs x.ino hl
 have hkl:(Je w.kept).length=w.kept.length:=List.length_map ..
 have hle:(zE x.es).length=x.es.length:=List.length_map ..
 by_cases c1:zw x.ino w.fs.xs=true
 ·have hn:¬qe w x:=fun h=>by have:=h.1;rw[c1]at this;cases this
  rw[c1]at hg
  refine fon Tryz.func117 ?_;dsimp only[Tryz.f117]
  push_cast -dsimp
  refine cl (hg) ?_;push_cast -dsimp
  exact dn (by push_cast -dsimp [zb,za,CLe,ze,hn])
 have c1:=Bool.eq_false_iff.2 c1
 rw[c1]at hg
 by_cases c2:x.ino<1
 case pos =>
  have hn:¬qe w x:=fun h=>by have:=h.2.1;omega
  refine fon Tryz.func117 ?_;dsimp only[Tryz.f117]
  push_cast -dsimp
  refine cl (hg) ?_;push_cast -dsimp [hle,c2]
  exact dn (by push_cast -dsimp [zb,za,CLe,ze,hn])
 by_cases c3:w.fs.next<=x.ino
 case pos =>
  have hn:¬qe w x:=fun h=>by have:=h.2.2.1;omega
  refine fon Tryz.func117 ?_;dsimp only[Tryz.f117]
  push_cast -dsimp
  refine cl (hg) ?_;push_cast -dsimp [hle,c2,c3]
  exact dn (by push_cast -dsimp [zb,za,CLe,ze,hn])
 by_cases c4:x.links=0
 case neg =>
  have hn:¬qe w x:=fun h=>c4 h.2.2.2.1
  refine fon Tryz.func117 ?_;dsimp only[Tryz.f117]
  push_cast -dsimp
  refine cl (hg) ?_;push_cast -dsimp [hle,c2,c3,c4]
  exact dn (by push_cast -dsimp [zb,za,CLe,ze,hn])
 by_cases c5:x.parent=0
 case neg =>
  have hn:¬qe w x:=fun h=>c5 h.2.2.2.2.1
  refine fon Tryz.func117 ?_;dsimp only[Tryz.f117]
  push_cast -dsimp
  refine cl (hg) ?_;push_cast -dsimp [hle,c2,c3,c4,c5]
  exact dn (by push_cast -dsimp [zb,za,CLe,ze,hn])
 by_cases c6:(x.es.length:Int)=0
 case neg =>
  have hn:¬qe w x:=fun h=>c6 (by rw[h.2.2.2.2.2.1];rfl)
  refine fon Tryz.func117 ?_;dsimp only[Tryz.f117]
  push_cast -dsimp
  refine cl (hg) ?_;push_cast -dsimp [hle,c2,c3,c4,c5,c6]
  exact dn (by push_cast -dsimp [zb,za,CLe,ze,hn])
 by_cases c7:x.kind<1
 case pos =>
  have hn:¬qe w x:=fun h=>by have:=h.2.2.2.2.2.2.1;omega
  refine fon Tryz.func117 ?_;dsimp only[Tryz.f117]
  push_cast -dsimp
  refine cl (hg) ?_;push_cast -dsimp [hle,c2,c3,c4,c5,c6,c7]
  exact dn (by push_cast -dsimp [zb,za,CLe,ze,hn])
 by_cases c8:3<x.kind
 case pos =>
  have hn:¬qe w x:=fun h=>by have:=h.2.2.2.2.2.2.1;omega
  refine fon Tryz.func117 ?_;dsimp only[Tryz.f117]
  push_cast -dsimp
  refine cl (hg) ?_;push_cast -dsimp [hle,c2,c3,c4,c5,c6,c7,c8]
  exact dn (by push_cast -dsimp [zb,za,CLe,ze,hn])
 have hes:x.es = []:=List.eq_nil_of_length_eq_zero (by omega)
 have hkd:x.kind=1∨x.kind=2∨x.kind=3:=by omega
 have key:(x.kind=2->x.data = [])->(x.kind=3->1<=x.data.length/\x.data.length<=4095/\∀ b∈x.data,b≠0)->decide (qe w x)=w.kept.any (qR x):=fun q1 q2=>by
  cases hn:w.kept.any (qR x) with
  | true=>exact decide_eq_true ⟨c1,by omega,by omega,c4,c5,hes,hkd,q1,q2,hn⟩
  | false=>exact decide_eq_false fun h=>by have:=h.2.2.2.2.2.2.2.2.2;rw[hn]at this;cases this
 by_cases k2:x.kind=2
 ·by_cases d0:x.data = []
  ·have hdl:((0:Int)<x.data.length)=False:=eq_false (by rw[d0];simp)
   refine fon Tryz.func117 ?_;dsimp only[Tryz.f117]
   push_cast -dsimp
   refine cl (hg) ?_;push_cast -dsimp [hle,c2,c3,c4,c5,c6,c7,c8,k2,d0,hdl]
   refine loop (fun j:Nat=>⟨[(2,.ptr 0 0),(3,.ptr 1 0),(7,.sc (.int .i64 j))],[UH w,JD x],0,0⟩) (fun j=>j=0) (fun j=>0) 0 rfl ?_ ?_
   ·exact wk (h5:=by push_cast -dsimp [zb,za,CLe,ze,k2,d0,c4,c5])
   ·rintro j rfl
    push_cast -dsimp [hdl,d0]
    refine loop (fun i:Nat=>⟨[(2,.ptr 0 0),(3,.ptr 1 0),(8,.sc (.bool ((w.kept.take i).any (qR x)))),(9,.sc (.int .i64 i))],[UH w,JD x],0,0⟩) (fun i=>i<=w.kept.length) (fun i=>w.kept.length-i) 0 (Nat.zero_le _) ?_ ?_
    ·exact wk (by push_cast -dsimp [zb,za,CLe,ze,List.take_zero,List.any_nil])
    ·intro i hi
     by_cases h:i<w.kept.length
     ·have g:=Jh w.kept i h
      have ha:=zpa (P:=qR x) h
      have hp:qR x w.kept[i]=(decide (w.kept[i].ino=x.ino)&&!w.kept[i].content):=rfl
      by_cases hn:((w.kept.take i).any (qR x))=true
      ·rw[hn,Bool.true_or]at ha
       push_cast -dsimp [hkl,h,hn]
       repeat refine an ?_
       exact ⟨i+1,h,by omega,wk (by push_cast -dsimp [zb,za,CLe,ze,ha])⟩
      ·have hn:=Bool.eq_false_iff.2 hn
       rw[hn,Bool.false_or,hp]at ha
       by_cases he:w.kept[i].ino=x.ino
       ·rw[decide_eq_true he,Bool.true_and]at ha
        push_cast -dsimp [hkl,h,hn,g,he]
        repeat refine an ?_
        exact ⟨i+1,h,by omega,wk (by push_cast -dsimp [zb,za,CLe,ze,ha])⟩
       ·rw[decide_eq_false he,Bool.false_and]at ha
        push_cast -dsimp [hkl,h,hn,g,he]
        repeat refine an ?_
        exact ⟨i+1,h,by omega,wk (by push_cast -dsimp [zb,za,CLe,ze,ha])⟩
     ·rw[List.take_of_length_le (by omega)]
      have hd:decide (qe w x)=w.kept.any (qR x):=key (fun _=>d0) (fun h=>by omega)
      push_cast -dsimp [hkl,h]
      exact dn (by push_cast -dsimp [zb,za,CLe,ze,hd])
  ·have hn:¬qe w x:=fun h=>d0 (h.2.2.2.2.2.2.2.1 k2)
   refine fon Tryz.func117 ?_;dsimp only[Tryz.f117]
   push_cast -dsimp
   refine cl (hg) ?_;push_cast -dsimp [hle,c2,c3,c4,c5,c6,c7,c8,k2,d0]
   exact dn (by push_cast -dsimp [zb,za,CLe,ze,hn])
 by_cases k3:x.kind=3
 ·by_cases l1:(x.data.length:Int)<1
  ·have hn:¬qe w x:=fun h=>by have:=(h.2.2.2.2.2.2.2.2.1 k3).1;omega
   refine fon Tryz.func117 ?_;dsimp only[Tryz.f117]
   push_cast -dsimp
   refine cl (hg) ?_;push_cast -dsimp [hle,c2,c3,c4,c5,c6,c7,c8,k2,k3,l1]
   exact dn (by push_cast -dsimp [zb,za,CLe,ze,hn])
  by_cases l2:4095<(x.data.length:Int)
  ·have hn:¬qe w x:=fun h=>by have:=(h.2.2.2.2.2.2.2.2.1 k3).2.1;omega
   refine fon Tryz.func117 ?_;dsimp only[Tryz.f117]
   push_cast -dsimp
   refine cl (hg) ?_;push_cast -dsimp [hle,c2,c3,c4,c5,c6,c7,c8,k2,k3,l1,l2]
   exact dn (by push_cast -dsimp [zb,za,CLe,ze,hn])
  refine fon Tryz.func117 ?_;dsimp only[Tryz.f117]
  push_cast -dsimp
  refine cl (hg) ?_;push_cast -dsimp [hle,c2,c3,c4,c5,c6,c7,c8,k2,k3,l1,l2]
  refine loop (fun j:Nat=>⟨[(2,.ptr 0 0),(3,.ptr 1 0),(7,.sc (.int .i64 j))],[UH w,JD x],0,0⟩) (fun j=>j<=x.data.length/\∀ b∈x.data.take j,b≠0) (fun j=>x.data.length-j) 0 ⟨Nat.zero_le _,fun b hb=>by simp at hb⟩ ?_ ?_
  ·exact wk (h5:=by push_cast -dsimp [zb,za,CLe,ze,k3,c4,c5])
  ·rintro j ⟨j1,j2⟩
   by_cases hj:j<x.data.length
   ·have hb:x.data[j]?=some x.data[j]:=List.getElem?_eq_getElem hj
    by_cases z:(x.data[j].toNat:Int)=0
    ·have hn:¬qe w x:=fun h=>(h.2.2.2.2.2.2.2.2.1 k3).2.2 _ (List.getElem_mem hj) (UInt8.toNat_inj.1 (by simpa using z))
     push_cast -dsimp [hj,k3,hb,z]
     repeat refine an ?_
     exact dn (by push_cast -dsimp [zb,za,CLe,ze,hn])
    ·push_cast -dsimp [hj,k3,hb,z]
     repeat refine an ?_
     exact ⟨j+1,⟨hj,zO hj j2 fun hz=>z (by rw[hz];rfl)⟩,by omega,wk⟩
   ·rw[List.take_of_length_le (by omega)]at j2
    push_cast -dsimp [hj,k3]
    refine loop (fun i:Nat=>⟨[(2,.ptr 0 0),(3,.ptr 1 0),(8,.sc (.bool ((w.kept.take i).any (qR x)))),(9,.sc (.int .i64 i))],[UH w,JD x],0,0⟩) (fun i=>i<=w.kept.length) (fun i=>w.kept.length-i) 0 (Nat.zero_le _) ?_ ?_
    ·exact wk (by push_cast -dsimp [zb,za,CLe,ze,List.take_zero,List.any_nil])
    ·intro i hi
     by_cases h:i<w.kept.length
     ·have g:=Jh w.kept i h
      have ha:=zpa (P:=qR x) h
      have hp:qR x w.kept[i]=(decide (w.kept[i].ino=x.ino)&&!w.kept[i].content):=rfl
      by_cases hn:((w.kept.take i).any (qR x))=true
      ·rw[hn,Bool.true_or]at ha
       push_cast -dsimp [hkl,h,hn]
       repeat refine an ?_
       exact ⟨i+1,h,by omega,wk (by push_cast -dsimp [zb,za,CLe,ze,ha])⟩
      ·have hn:=Bool.eq_false_iff.2 hn
       rw[hn,Bool.false_or,hp]at ha
       by_cases he:w.kept[i].ino=x.ino
       ·rw[decide_eq_true he,Bool.true_and]at ha
        push_cast -dsimp [hkl,h,hn,g,he]
        repeat refine an ?_
        exact ⟨i+1,h,by omega,wk (by push_cast -dsimp [zb,za,CLe,ze,ha])⟩
       ·rw[decide_eq_false he,Bool.false_and]at ha
        push_cast -dsimp [hkl,h,hn,g,he]
        repeat refine an ?_
        exact ⟨i+1,h,by omega,wk (by push_cast -dsimp [zb,za,CLe,ze,ha])⟩
     ·rw[List.take_of_length_le (by omega)]
      have hd:decide (qe w x)=w.kept.any (qR x):=key (fun h=>absurd h k2) (fun _=>⟨by omega,by omega,j2⟩)
      push_cast -dsimp [hkl,h]
      exact dn (by push_cast -dsimp [zb,za,CLe,ze,hd])
 ·have k1:x.kind=1:=by omega
  refine fon Tryz.func117 ?_;dsimp only[Tryz.f117]
  push_cast -dsimp
  refine cl (hg) ?_;push_cast -dsimp [hle,c2,c3,c4,c5,c6,c7,c8,k2,k3]
  refine loop (fun j:Nat=>⟨[(2,.ptr 0 0),(3,.ptr 1 0),(7,.sc (.int .i64 j))],[UH w,JD x],0,0⟩) (fun j=>j=0) (fun j=>0) 0 rfl ?_ ?_
  ·exact wk (h5:=by push_cast -dsimp [zb,za,CLe,ze,c4,c5])
  ·rintro j rfl
   by_cases hd0:(0:Int)<x.data.length
   ·push_cast -dsimp [hd0,k3]
    refine loop (fun i:Nat=>⟨[(2,.ptr 0 0),(3,.ptr 1 0),(8,.sc (.bool ((w.kept.take i).any (qR x)))),(9,.sc (.int .i64 i))],[UH w,JD x],0,0⟩) (fun i=>i<=w.kept.length) (fun i=>w.kept.length-i) 0 (Nat.zero_le _) ?_ ?_
    ·exact wk (by push_cast -dsimp [zb,za,CLe,ze,List.take_zero,List.any_nil])
    ·intro i hi
     by_cases h:i<w.kept.length
     ·have g:=Jh w.kept i h
      have ha:=zpa (P:=qR x) h
      have hp:qR x w.kept[i]=(decide (w.kept[i].ino=x.ino)&&!w.kept[i].content):=rfl
      by_cases hn:((w.kept.take i).any (qR x))=true
      ·rw[hn,Bool.true_or]at ha
       push_cast -dsimp [hkl,h,hn]
       repeat refine an ?_
       exact ⟨i+1,h,by omega,wk (by push_cast -dsimp [zb,za,CLe,ze,ha])⟩
      ·have hn:=Bool.eq_false_iff.2 hn
       rw[hn,Bool.false_or,hp]at ha
       by_cases he:w.kept[i].ino=x.ino
       ·rw[decide_eq_true he,Bool.true_and]at ha
        push_cast -dsimp [hkl,h,hn,g,he]
        repeat refine an ?_
        exact ⟨i+1,h,by omega,wk (by push_cast -dsimp [zb,za,CLe,ze,ha])⟩
       ·rw[decide_eq_false he,Bool.false_and]at ha
        push_cast -dsimp [hkl,h,hn,g,he]
        repeat refine an ?_
        exact ⟨i+1,h,by omega,wk (by push_cast -dsimp [zb,za,CLe,ze,ha])⟩
     ·rw[List.take_of_length_le (by omega)]
      have hd:decide (qe w x)=w.kept.any (qR x):=key (fun h=>absurd h k2) (fun h=>absurd h k3)
      push_cast -dsimp [hkl,h]
      exact dn (by push_cast -dsimp [zb,za,CLe,ze,hd])
   ·push_cast -dsimp [hd0,k3]
    refine loop (fun i:Nat=>⟨[(2,.ptr 0 0),(3,.ptr 1 0),(8,.sc (.bool ((w.kept.take i).any (qR x)))),(9,.sc (.int .i64 i))],[UH w,JD x],0,0⟩) (fun i=>i<=w.kept.length) (fun i=>w.kept.length-i) 0 (Nat.zero_le _) ?_ ?_
    ·exact wk (by push_cast -dsimp [zb,za,CLe,ze,List.take_zero,List.any_nil])
    ·intro i hi
     by_cases h:i<w.kept.length
     ·have g:=Jh w.kept i h
      have ha:=zpa (P:=qR x) h
      have hp:qR x w.kept[i]=(decide (w.kept[i].ino=x.ino)&&!w.kept[i].content):=rfl
      by_cases hn:((w.kept.take i).any (qR x))=true
      ·rw[hn,Bool.true_or]at ha
       push_cast -dsimp [hkl,h,hn]
       repeat refine an ?_
       exact ⟨i+1,h,by omega,wk (by push_cast -dsimp [zb,za,CLe,ze,ha])⟩
      ·have hn:=Bool.eq_false_iff.2 hn
       rw[hn,Bool.false_or,hp]at ha
       by_cases he:w.kept[i].ino=x.ino
       ·rw[decide_eq_true he,Bool.true_and]at ha
        push_cast -dsimp [hkl,h,hn,g,he]
        repeat refine an ?_
        exact ⟨i+1,h,by omega,wk (by push_cast -dsimp [zb,za,CLe,ze,ha])⟩
       ·rw[decide_eq_false he,Bool.false_and]at ha
        push_cast -dsimp [hkl,h,hn,g,he]
        repeat refine an ?_
        exact ⟨i+1,h,by omega,wk (by push_cast -dsimp [zb,za,CLe,ze,ha])⟩
     ·rw[List.take_of_length_le (by omega)]
      have hd:decide (qe w x)=w.kept.any (qR x):=key (fun h=>absurd h k2) (fun h=>absurd h k3)
      push_cast -dsimp [hkl,h]
      exact dn (by push_cast -dsimp [zb,za,CLe,ze,hd])
end
section
open CA CB
open Go.RowKit
def zfG (w:zS):Prop:=(∀ k∈w.kept,k.data.length<=5000)/\UO w.fs.xs/\UO w.pool/\w.kept.length<=40
instance (w:zS):Decidable (zfG w):=by unfold zfG;infer_instance
def YL (w:zS) (k:jP):Prop:=k.slot<=1073741824/\(zw k.ino w.fs.xs=true∨zw k.ino w.pool=true)/\(k.content=true->(if zw k.ino w.pool=true then zf k.ino w.pool else zf k.ino w.fs.xs).kind=1)/\(k.content=false->k.data = [])
instance (w:zS) (k:jP):Decidable (YL w k):=by unfold YL;infer_instance
def Y6 (ks:List jP):Prop:=jt zo5 jP.slot ks/\∀ k∈ks,1<=k.slot
instance (ks:List jP):Decidable (Y6 ks):=by unfold Y6 jt;infer_instance
def YI (w:zS):Prop:=jR w.fs=0/\zZ w.pool/\(∀ x∈w.pool,qe w x)/\Y6 w.kept/\∀ k∈w.kept,YL w k
instance (w:zS):Decidable (YI w):=by unfold YI;infer_instance
def okW (w:zS):Prop:=zfG w/\YI w
instance (w:zS):Decidable (okW w):=by unfold okW;infer_instance
theorem Ul {ks:List jP} (h:Y6 ks):0<=jv ks/\∀ k∈ks,k.slot<=jv ks:=by
 rcases List.eq_nil_or_concat ks with rfl | ⟨l,b,rfl⟩
 ·exact ⟨Int.le_refl 0,fun k hk=>by cases hk⟩
 ·rw[List.concat_eq_append]at h ⊢
  have hl:jv (l++[b])=b.slot:=by unfold jv;rw[List.getLast?_append];rfl
  rw[hl]
  have hb:=h.2 b (by simp)
  refine ⟨by omega,fun k hk=>?_⟩
  rcases List.mem_append.1 hk with hk | hk
  ·have:=(List.pairwise_append.1 h.1).2.2 k hk b (by simp)
   have:k.slot<b.slot:=of_decide_eq_true this
   omega
  ·rw[List.mem_singleton.1 hk];exact Int.le_refl _
theorem Uf {ks:List jP} {k:jP}:Y6 (ks++[k])↔Y6 ks/\jv ks<k.slot:=by
 constructor
 ·rintro ⟨h1,h2⟩
  have h0:Y6 ks:=⟨(List.pairwise_append.1 h1).1,fun x hx=>h2 x (List.mem_append_left _ hx)⟩
  refine ⟨h0,?_⟩
  rcases List.eq_nil_or_concat ks with rfl | ⟨l,b,rfl⟩
  ·have:=h2 k (by simp)
   show (0:Int)<k.slot
   omega
  ·rw[List.concat_eq_append]at h1 ⊢
   have hl:jv (l++[b])=b.slot:=by unfold jv;rw[List.getLast?_append];rfl
   rw[hl]
   exact of_decide_eq_true ((List.pairwise_append.1 h1).2.2 b (by simp) k (by simp))
 ·rintro ⟨h,hk⟩
  obtain ⟨q1,q2⟩:=Ul h
  refine ⟨List.pairwise_append.2 ⟨h.1,List.pairwise_singleton _ _,fun a ha b hb=>?_⟩,fun x hx=>?_⟩
  ·rw[List.mem_singleton.1 hb]
   have:=q2 a ha
   exact decide_eq_true (show a.slot<k.slot by omega)
  ·rcases List.mem_append.1 hx with hx | hx
   ·exact h.2 x hx
   ·rw[List.mem_singleton.1 hx];omega
theorem kx (w:zS):Fun Tryz.prog G0 65 [ZZ w] (qh (decide (zfG w))) 0:=by
 have hkl:(Je w.kept).length=w.kept.length:=List.length_map ..
 have hf:=vN (G:=G0) w.fs
 have hq:=Vx (G:=G0) w
 have hp:=vN (G:=G0) ⟨0,0,0,w.pool⟩
 simp only at hp
 have fin:(∀ k∈w.kept.take 100,k.data.length<=5000)->(zfG w↔UO w.fs.xs/\UO w.pool/\w.kept.length<=40):=fun h=>by
  refine ⟨fun q=>q.2,fun q=>⟨?_,q⟩⟩
  rw[List.take_of_length_le (by have:=q.2.2;omega)]at h
  exact h
 refine fon Tryz.func65 ?_;dsimp only[Tryz.f65]
 push_cast -dsimp
 refine loop (fun i:Nat=>⟨[(1,.ptr 0 0),(3,.sc (.int .i64 i))],[UH w],0,0⟩) (fun i=>i<=w.kept.length/\i<=100/\∀ k∈w.kept.take i,k.data.length<=5000) (fun i=>w.kept.length-i) 0 ⟨Nat.zero_le _,Nat.zero_le _,fun x hx=>by simp at hx⟩ ?_ ?_
 ·exact wk
 ·rintro i ⟨h1,h2,h3⟩
  have last:(∀ k∈w.kept.take 100,k.data.length<=5000)->decide (zfG w)=(decide (UO w.fs.xs)&&(decide (UO w.pool)&&decide (w.kept.length<=40))):=fun h=>by
   have:=fin h
   by_cases a:UO w.fs.xs<;>by_cases b:UO w.pool<;>by_cases c:w.kept.length<=40<;>simp[this,a,b,c]
  by_cases h:i<w.kept.length
  ·by_cases h100:i<100
   ·have g:=Jh w.kept i h
    have h100':((i:Int)<100)=True:=eq_true (by omega)
    by_cases hd:5000<(w.kept[i].data.length:Int)
    ·have hn:¬zfG w:=fun q=>by have:=q.1 _ (List.getElem_mem h);omega
     push_cast -dsimp [hkl,h,h100',g,hd]
     repeat refine an ?_
     exact dn (by push_cast -dsimp [zb,za,CLe,ze,hn])
    ·push_cast -dsimp [hkl,h,h100',g,hd]
     repeat refine an ?_
     exact ⟨i+1,⟨h,h100,zO h h3 (by omega)⟩,by omega,wk⟩
   ·have h100':((i:Int)<100)=False:=eq_false (by omega)
    have e:i=100:=by omega
    have hl:=last (by rw[←e];exact h3)
    have h40:((w.kept.length:Int)<=40)=False:=eq_false (by omega)
    rw[decide_eq_false (show ¬w.kept.length<=40 by omega)]at hl
    rw[hl]
    by_cases a:UO w.fs.xs
    ·by_cases b:UO w.pool
     ·push_cast -dsimp [hkl,h,h100']
      refine cl (hf) ?_;push_cast -dsimp [decide_eq_true a]
      refine cl (hq) ?_;push_cast -dsimp
      refine cl (hp) ?_;push_cast -dsimp [decide_eq_true b,hkl,h40]
      exact dn (by push_cast -dsimp [zb,za,CLe,ze,a,b,Bool.false_and])
     ·push_cast -dsimp [hkl,h,h100']
      refine cl (hf) ?_;push_cast -dsimp [decide_eq_true a]
      refine cl (hq) ?_;push_cast -dsimp
      refine cl (hp) ?_;push_cast -dsimp [decide_eq_false b]
      exact dn (by push_cast -dsimp [zb,za,CLe,ze,a,b,Bool.false_and])
    ·push_cast -dsimp [hkl,h,h100']
     refine cl (hf) ?_;push_cast -dsimp [decide_eq_false a]
     exact dn (by push_cast -dsimp [zb,za,CLe,ze,a,Bool.false_and])
  ·rw[List.take_of_length_le (by omega)]at h3
   have hl:=last fun k hk=>h3 k (List.mem_of_mem_take hk)
   rw[hl]
   by_cases a:UO w.fs.xs
   ·by_cases b:UO w.pool
    ·by_cases c:w.kept.length<=40
     ·have h40:((w.kept.length:Int)<=40)=True:=eq_true (by omega)
      push_cast -dsimp [hkl,h]
      refine cl (hf) ?_;push_cast -dsimp [decide_eq_true a]
      refine cl (hq) ?_;push_cast -dsimp
      refine cl (hp) ?_;push_cast -dsimp [decide_eq_true b,hkl,h40]
      exact dn (by push_cast -dsimp [zb,za,CLe,ze,a,b,c,Bool.false_and])
     ·have h40:((w.kept.length:Int)<=40)=False:=eq_false (by omega)
      push_cast -dsimp [hkl,h]
      refine cl (hf) ?_;push_cast -dsimp [decide_eq_true a]
      refine cl (hq) ?_;push_cast -dsimp
      refine cl (hp) ?_;push_cast -dsimp [decide_eq_true b,hkl,h40]
      exact dn (by push_cast -dsimp [zb,za,CLe,ze,a,b,c,Bool.false_and])
    ·push_cast -dsimp [hkl,h]
     refine cl (hf) ?_;push_cast -dsimp [decide_eq_true a]
     refine cl (hq) ?_;push_cast -dsimp
     refine cl (hp) ?_;push_cast -dsimp [decide_eq_false b]
     exact dn (by push_cast -dsimp [zb,za,CLe,ze,a,b,Bool.false_and])
   ·push_cast -dsimp [hkl,h]
    refine cl (hf) ?_;push_cast -dsimp [decide_eq_false a]
    exact dn (by push_cast -dsimp [zb,za,CLe,ze,a,Bool.false_and])
structure zqG (w:zS):Prop where
 fs:FsS w.fs
 kept:w.kept.length<=10000
 pool:FsS ⟨0,0,0,w.pool⟩
theorem xq (w:zS) (hw:zqG w):Fun Tryz.prog G0 66 [ZZ w] (qh (decide (YI w))) 0:=by
 have hfl:=hw.fs.len
 have hkk:=hw.kept
 have hpp:w.pool.length<=10000:=hw.pool.len
 have hkl:(Je w.kept).length=w.kept.length:=List.length_map ..
 have hpl:(zD w.pool).length=w.pool.length:=List.length_map ..
 have hch:=zdY w.fs hw.fs
 have hq:=Vx (G:=G0) w
 have hri:=Ve (G:=G0) ⟨0,0,0,w.pool⟩ (by simp only;omega)
 by_cases c1:jR w.fs=0
 case neg =>
  have hn:¬YI w:=fun h=>c1 h.1
  refine fof (fun i=>if i=14 then YU 8 9 else []) Tryz.func66 ?_;dsimp only[Tryz.f66]
  push_cast -dsimp
  refine cl (hch) ?_;push_cast -dsimp [c1]
  exact dn (by push_cast -dsimp [zb,za,CLe,ze,hn])
 by_cases c2:zZ w.pool
 case neg =>
  have hn:¬YI w:=fun h=>c2 h.2.1
  rw[decide_eq_false c2]at hri
  refine fof (fun i=>if i=14 then YU 8 9 else []) Tryz.func66 ?_;dsimp only[Tryz.f66]
  push_cast -dsimp
  refine cl (hch) ?_;push_cast -dsimp [c1]
  refine cl (hq) ?_;push_cast -dsimp
  refine cl (hri) ?_;push_cast -dsimp
  exact dn (by push_cast -dsimp [zb,za,CLe,ze,hn])
 rw[decide_eq_true c2]at hri
 refine fof (fun i=>if i=14 then YU 8 9 else []) Tryz.func66 ?_;dsimp only[Tryz.f66]
 push_cast -dsimp
 refine cl (hch) ?_;push_cast -dsimp [c1]
 refine cl (hq) ?_;push_cast -dsimp
 refine cl (hri) ?_;push_cast -dsimp
 refine loop (fun i:Nat=>⟨[(1,.ptr 0 0),(3,.sc (.int .i64 i))],[UH w],0,0⟩) (fun i=>i<=w.pool.length/\∀ x∈w.pool.take i,qe w x) (fun i=>w.pool.length-i) 0 ⟨Nat.zero_le _,fun x hx=>by simp at hx⟩ ?_ ?_
 ·exact wk
 rintro i ⟨h1,h2⟩
 by_cases h:i<w.pool.length
 ·have g:=qx w.pool i h
  have hn:=hw.pool.node _ (List.getElem_mem h)
  have hpo:=zaS w w.pool[i] (by omega) (by omega) (by omega) (by omega)
  by_cases c3:qe w w.pool[i]
  ·rw[decide_eq_true c3]at hpo
   push_cast -dsimp [hpl,h,g]
   repeat refine an ?_
   refine cl (hpo) ?_;push_cast -dsimp
   repeat refine an ?_
   exact ⟨i+1,⟨h,zO h h2 c3⟩,by omega,wk⟩
  ·rw[decide_eq_false c3]at hpo
   have hn:¬YI w:=fun q=>c3 (q.2.2.1 _ (List.getElem_mem h))
   push_cast -dsimp [hpl,h,g]
   repeat refine an ?_
   refine cl (hpo) ?_;push_cast -dsimp
   exact dn (by push_cast -dsimp [zb,za,CLe,ze,hn])
 rw[List.take_of_length_le (by omega)]at h2
 have hs0:Y6 []:=⟨List.Pairwise.nil,fun k hk=>by cases hk⟩
 have hl0:jv []=0:=rfl
 push_cast -dsimp [hpl,h]
 clear hri hq hch
 refine loop (fun i:Nat=>⟨[(1,.ptr 0 0),(4,.sc (.int .i64 (jv (w.kept.take i)))),(5,.sc (.int .i64 i))],[UH w],0,0⟩) (fun i=>i<=w.kept.length/\Y6 (w.kept.take i)/\∀ k∈w.kept.take i,YL w k) (fun i=>w.kept.length-i) 0 ⟨Nat.zero_le _,by rw[List.take_zero];exact hs0,fun x hx=>by simp at hx⟩ ?_ ?_
 ·exact wk (by push_cast -dsimp [zb,za,CLe,ze,List.take_zero,hl0])
 rintro i ⟨i1,i2,i3⟩
 by_cases hi:i<w.kept.length
 case neg =>
  rw[List.take_of_length_le (by omega)]at i2 i3
  have hn:YI w:=⟨c1,c2,h2,i2,i3⟩
  push_cast -dsimp [hkl,hi]
  exact dn (by push_cast -dsimp [zb,za,CLe,ze,hn])
 have g:=Jh w.kept i hi
 have hlt:=VI hi
 have hst:w.kept.take (i+1)=w.kept.take i++[w.kept[i]]:=by rw[List.take_add_one,List.getElem?_eq_getElem hi];rfl
 have hbad1:¬jv (w.kept.take i)<w.kept[i].slot->¬YI w:=fun hn q=>hn (Uf.1 (by
  rw[←hst]
  exact ⟨q.2.2.2.1.1.sublist (List.take_sublist _ _),fun k hk=>q.2.2.2.1.2 k (List.mem_of_mem_take hk)⟩)).2
 have hbad2:¬YL w w.kept[i]->¬YI w:=fun hn q=>hn (q.2.2.2.2 _ (List.getElem_mem hi))
 have hgood:jv (w.kept.take i)<w.kept[i].slot->Y6 (w.kept.take (i+1)):=fun q=>by rw[hst];exact Uf.2 ⟨i2,q⟩
 have hgood2:YL w w.kept[i]->∀ k∈w.kept.take (i+1),YL w k:=fun q=>zO hi i3 q
 have hg1:=Jg (G:=G0) w.fs w.kept[i].ino (by omega)
 have hq:=Vx (G:=G0) w
 have hg2:=Jg (G:=G0) ⟨0,0,0,w.pool⟩ w.kept[i].ino (by simp only;omega)
 simp only at hg2
 generalize w.kept[i]=k at g hlt hbad1 hbad2 hgood hgood2 hg1 hg2
 generalize jv (w.kept.take i)=la at hbad1 hgood
 clear hst i2 i3
 by_cases d1:k.slot<=la
 ·have hn:=hbad1 (by omega)
  push_cast -dsimp [hkl,hi,g]
  repeat refine an ?_
  refine cl (hg1) ?_;push_cast -dsimp
  refine cl (hq) ?_;push_cast -dsimp
  refine cl (hg2) ?_;push_cast -dsimp [d1]
  exact dn (by push_cast -dsimp [zb,za,CLe,ze,hn])
 have hgd:=hgood (by omega)
 by_cases d2:1073741824<k.slot
 ·have hn:=hbad2 fun q=>by have:=q.1;omega
  push_cast -dsimp [hkl,hi,g]
  repeat refine an ?_
  refine cl (hg1) ?_;push_cast -dsimp
  refine cl (hq) ?_;push_cast -dsimp
  refine cl (hg2) ?_;push_cast -dsimp [d1,d2]
  exact dn (by push_cast -dsimp [zb,za,CLe,ze,hn])
 cases e2:zw k.ino w.pool with
 | true =>
  rw[e2]at hg2
  by_cases d4:k.content=true
  ·by_cases d5:(zf k.ino w.pool).kind=1
   ·have hok:YL w k:=⟨by omega,.inr e2,fun _=>by rw[if_pos e2];exact d5,fun q=>by rw[d4]at q;cases q⟩
    cases e1:zw k.ino w.fs.xs <;>
    ·rw[e1]at hg1
     push_cast -dsimp [hkl,hi,g]
     repeat refine an ?_
     refine cl (hg1) ?_;push_cast -dsimp
     refine cl (hq) ?_;push_cast -dsimp
     refine cl (hg2) ?_;push_cast -dsimp [d1,d2,d4,d5]
     repeat refine an ?_
     exact ⟨i+1,⟨hi,hgd,hgood2 hok⟩,by omega,wk (by push_cast -dsimp [zb,za,CLe,ze,hlt])⟩
   ·have hn:=hbad2 fun q=>d5 (by have:=q.2.2.1 d4;rwa [if_pos e2]at this)
    cases e1:zw k.ino w.fs.xs <;>
    ·rw[e1]at hg1
     push_cast -dsimp [hkl,hi,g]
     repeat refine an ?_
     refine cl (hg1) ?_;push_cast -dsimp
     refine cl (hq) ?_;push_cast -dsimp
     refine cl (hg2) ?_;push_cast -dsimp [d1,d2,d4,d5]
     exact dn (by push_cast -dsimp [zb,za,CLe,ze,hn])
  ·have d4:=Bool.eq_false_iff.2 d4
   by_cases d6:k.data = []
   ·have hok:YL w k:=⟨by omega,.inr e2,fun q=>(by rw[d4]at q;cases q),fun _=>d6⟩
    cases e1:zw k.ino w.fs.xs <;>
    ·rw[e1]at hg1
     push_cast -dsimp [hkl,hi,g]
     repeat refine an ?_
     refine cl (hg1) ?_;push_cast -dsimp
     refine cl (hq) ?_;push_cast -dsimp
     refine cl (hg2) ?_;push_cast -dsimp [d1,d2,d4,d6]
     repeat refine an ?_
     exact ⟨i+1,⟨hi,hgd,hgood2 hok⟩,by omega,wk (by push_cast -dsimp [zb,za,CLe,ze,hlt])⟩
   ·have hn:=hbad2 fun q=>d6 (q.2.2.2 d4)
    cases e1:zw k.ino w.fs.xs <;>
    ·rw[e1]at hg1
     push_cast -dsimp [hkl,hi,g]
     repeat refine an ?_
     refine cl (hg1) ?_;push_cast -dsimp
     refine cl (hq) ?_;push_cast -dsimp
     refine cl (hg2) ?_;push_cast -dsimp [d1,d2,d4,d6]
     exact dn (by push_cast -dsimp [zb,za,CLe,ze,hn])
 | false =>
  rw[e2]at hg2
  cases e1:zw k.ino w.fs.xs with
  | false =>
   rw[e1]at hg1
   have hn:=hbad2 fun q=>by
    rcases q.2.1 with q | q
    ·rw[e1]at q;cases q
    ·rw[e2]at q;cases q
   push_cast -dsimp [hkl,hi,g]
   repeat refine an ?_
   refine cl (hg1) ?_;push_cast -dsimp
   refine cl (hq) ?_;push_cast -dsimp
   refine cl (hg2) ?_;push_cast -dsimp [d1,d2]
   exact dn (by push_cast -dsimp [zb,za,CLe,ze,hn])
  | true =>
   rw[e1]at hg1
   have e2':¬zw k.ino w.pool=true:=by rw[e2];decide
   by_cases d4:k.content=true
   ·by_cases d5:(zf k.ino w.fs.xs).kind=1
    ·have hok:YL w k:=⟨by omega,.inl e1,fun _=>by rw[if_neg e2'];exact d5,fun q=>by rw[d4]at q;cases q⟩
     push_cast -dsimp [hkl,hi,g]
     repeat refine an ?_
     refine cl (hg1) ?_;push_cast -dsimp
     refine cl (hq) ?_;push_cast -dsimp
     refine cl (hg2) ?_;push_cast -dsimp [d1,d2,d4,d5]
     repeat refine an ?_
     exact ⟨i+1,⟨hi,hgd,hgood2 hok⟩,by omega,wk (by push_cast -dsimp [zb,za,CLe,ze,hlt])⟩
    ·have hn:=hbad2 fun q=>d5 (by have:=q.2.2.1 d4;rwa [if_neg e2']at this)
     push_cast -dsimp [hkl,hi,g]
     repeat refine an ?_
     refine cl (hg1) ?_;push_cast -dsimp
     refine cl (hq) ?_;push_cast -dsimp
     refine cl (hg2) ?_;push_cast -dsimp [d1,d2,d4,d5]
     exact dn (by push_cast -dsimp [zb,za,CLe,ze,hn])
   ·have d4:=Bool.eq_false_iff.2 d4
    by_cases d6:k.data = []
    ·have hok:YL w k:=⟨by omega,.inl e1,fun q=>(by rw[d4]at q;cases q),fun _=>d6⟩
     push_cast -dsimp [hkl,hi,g]
     repeat refine an ?_
     refine cl (hg1) ?_;push_cast -dsimp
     refine cl (hq) ?_;push_cast -dsimp
     refine cl (hg2) ?_;push_cast -dsimp [d1,d2,d4,d6]
     repeat refine an ?_
     exact ⟨i+1,⟨hi,hgd,hgood2 hok⟩,by omega,wk (by push_cast -dsimp [zb,za,CLe,ze,hlt])⟩
    ·have hn:=hbad2 fun q=>d6 (q.2.2.2 d4)
     push_cast -dsimp [hkl,hi,g]
     repeat refine an ?_
     refine cl (hg1) ?_;push_cast -dsimp
     refine cl (hq) ?_;push_cast -dsimp
     refine cl (hg2) ?_;push_cast -dsimp [d1,d2,d4,d6]
     exact dn (by push_cast -dsimp [zb,za,CLe,ze,hn])
theorem zfG.m {w:zS} (h:zfG w):zqG w:=⟨h.2.1.fs,by have:=h.2.2.2;omega,UO.fs (f:=⟨0,0,0,w.pool⟩) h.2.2.1⟩
theorem zb8 (w:zS):Fun Tryz.prog G0 28 [ZZ w] (qh (decide (okW w))) 0:=by
 by_cases c:zfG w
 ·have h1:=kx w
  have h2:=xq w c.m
  rw[decide_eq_true c]at h1
  have e:decide (okW w)=decide (YI w):=by by_cases r:YI w<;>simp[okW,c,r]
  refine fon Tryz.func28 ?_;dsimp only[Tryz.f28]
  push_cast -dsimp
  refine cl (h1) ?_;push_cast -dsimp
  refine cl (h2) ?_;push_cast -dsimp
  exact dn (by push_cast -dsimp [zb,za,CLe,ze,e])
 ·have h1:=kx w
  rw[decide_eq_false c]at h1
  have e:¬okW w:=fun h=>c h.1
  refine fon Tryz.func28 ?_;dsimp only[Tryz.f28]
  push_cast -dsimp
  refine cl (h1) ?_;push_cast -dsimp
  exact dn (by push_cast -dsimp [zb,za,CLe,ze,e])
end
section
open Go.RowKit
section
variable {G:zk}
theorem zeO (n:Nat) (hn:n<=200000) (h0:0<n):YX Tryz.prog G 161 [.sc (.slice none 0 0),.sc (.int .i64 n)] [] 0 (fun r bx' m=>m=0/\∃ (c:Nat) (B:List C),n<=c/\c<=9223372036854775807/\B.length=c*5/\(B.all C.stayB)=true/\r = .bs 0 0 5 0 c/\bx' = [B]):=by
 have hp:((n:Int)<0)=False:=eq_false (by omega)
 have hq:((0:Int)<(n:Int))=True:=eq_true (by omega)
 refine foX (fun i=>if i=1000000+37 then [true,true] else []) Tryz.func161 ?_;dsimp only[Tryz.f161]
 push_cast -dsimp [hp,hq]
 refine ⟨⟨by omega,by omega⟩,zfl zfI znw zgc rfl (by decide) rfl (by omega) (by omega) (by omega) (fun c h1 h2=>?_)⟩
 push_cast -dsimp
 have hm:(n:Int).toNat=n:=by omega
 rw[hm]at h1
 have h2:c<=9223372036854775807:=h2
 refine ⟨by omega,by omega,_,[(List.replicate n [C.sc (.int .i64 0),C.sc (.int .i64 0),C.str [],C.str [],C.str []]).flatten++List.replicate ((c-n)*5) C.any],0,⟨⟨rfl,c,_,h1,h2,?_,?_,rfl,rfl⟩,Nat.zero_le _⟩,[],rfl,rfl,?_,by push_cast -dsimp [zb,za,CLe,ze]⟩
 ·simp[hm];omega
 ·simp[List.all_append,List.all_replicate,C.stayB]
 ·push_cast -dsimp [zb,za,CLe,ze]
  exact zX (by simp[List.all_append,List.all_replicate,C.stayB])
theorem uJ:Fun Tryz.prog G 124 [.sc (.slice none 0 0),.sc (.int .i64 0)] (.sc (.slice none 0 0)) 0:=by
 refine fon Tryz.func124 ?_;dsimp only[Tryz.f124]
 push_cast -dsimp
 exact dn
theorem zcE (n:Nat) (hn:n<=200000) (h0:0<n):YX Tryz.prog G 124 [.sc (.slice none 0 0),.sc (.int .i64 n)] [] 0 (fun r bx' m=>m=0/\∃ (c:Nat) (B:List C),n<=c/\c<=9223372036854775807/\B.length=c*1/\(B.all C.stayB)=true/\r = .bs 0 0 1 0 c/\bx' = [B]):=by
 have hp:((n:Int)<0)=False:=eq_false (by omega)
 have hq:((0:Int)<(n:Int))=True:=eq_true (by omega)
 refine foX (fun i=>if i=1000000+30 then [true,true] else []) Tryz.func124 ?_;dsimp only[Tryz.f124]
 push_cast -dsimp [hp,hq]
 refine ⟨⟨by omega,by omega⟩,zfl zhv znw zo3 rfl (by decide) rfl (by omega) (by omega) (by omega) (fun c h1 h2=>?_)⟩
 push_cast -dsimp
 have hm:(n:Int).toNat=n:=by omega
 rw[hm]at h1
 have h2:c<=9223372036854775807:=h2
 refine ⟨by omega,by omega,_,[(List.replicate n [C.str []]).flatten++List.replicate ((c-n)*1) C.any],0,⟨⟨rfl,c,_,h1,h2,?_,?_,rfl,rfl⟩,Nat.zero_le _⟩,[],rfl,rfl,?_,by push_cast -dsimp [zb,za,CLe,ze]⟩
 ·simp[hm];omega
 ·simp[List.all_append,List.all_replicate,C.stayB]
 ·push_cast -dsimp [zb,za,CLe,ze]
  exact zX (by simp[List.all_append,List.all_replicate,C.stayB])
end
end
section
open CA CB
open Go.RowKit
def szN (a b:Nat):Nat->Nat
 | 0=>0
 | 1=>a
 | _=>a+b
def zoT {α:Type} (a b:List α):Nat->List α
 | 0=>[]
 | 1=>a
 | _=>a++b
structure kM (k c:Nat) (a b:List (List C)) (j:Nat) (X:List C):Prop where
 len:X.length=c*k
 stay:(X.all C.stayB)=true
 cells:X.take (szN a.length b.length j*k)=(zoT a b j).flatten
theorem kM.step {k c:Nat} {a b r:List (List C)} {j:Nat} {X:List C} (h:kM k c a b j X) (hr:zoT a b (j+1)=zoT a b j++r) (hn:szN a.length b.length (j+1)=szN a.length b.length j+r.length) (hk:∀ x∈r,x.length=k) (hs:jI r) (hc:szN a.length b.length (j+1)<=c) :
  kM k c a b (j+1) (spl X (szN a.length b.length j*k) r.flatten):=by
 have hf:=qk hk
 obtain ⟨h1,h2,h3⟩:=h
 have hle:(szN a.length b.length j+r.length)*k<=c*k:=Nat.mul_le_mul_right k (by omega)
 rw[Nat.add_mul]at hle
 refine ⟨by rw[HJ (by omega)];exact h1,?_,?_⟩
 ·unfold spl
  rw[List.all_append,List.all_append,Bool.and_eq_true,Bool.and_eq_true]
  rw[List.all_eq_true]at h2
  exact ⟨⟨List.all_eq_true.2 fun x hx=>h2 x (List.mem_of_mem_take hx),XC hs⟩,List.all_eq_true.2 fun x hx=>h2 x (List.mem_of_mem_drop hx)⟩
 ·unfold spl
  rw[hn,Nat.add_mul,hr,List.flatten_append,←h3,List.append_assoc,List.take_append]
  have e1:(X.take (szN a.length b.length j*k)).length=szN a.length b.length j*k:=by rw[List.length_take];omega
  rw[e1,List.take_of_length_le (by omega),Nat.add_sub_cancel_left,List.take_append,←hf,List.take_of_length_le (Nat.le_refl _)]
  simp
structure zof (k c:Nat) (rows:List (List C)) (B:List C):Prop where
 fit:rows.length<=c
 max:c<=9223372036854775807
 len:B.length=c*k
 stay:(B.all C.stayB)=true
 cells:B.take (rows.length*k)=rows.flatten
theorem zof.ok {k c e i:Nat} {rows:List (List C)} {B:List C} {bx:List (List C)} (h:zof k c rows B) (hb:bx[i]?=some B) (h0:0<rows.length) (hk:∀ r∈rows,r.length=k):zfE [(i,e,k,rows,c)] bx:=
 vL hb (Nat.lt_of_lt_of_le h0 h.fit) h.fit h.max h.len hk h.stay h.cells
section
variable {G:zk}
theorem zcV (a b:List (List C)) (ka:∀ r∈a,r.length=5) (kb:∀ r∈b,r.length=5) (sa:jI a) (sb:jI b) (la:a.length<=90000) (lb:b.length<=90000) (h0:0<a.length+b.length) :
  YX Tryz.prog G 112 [.sl 1 [[.sl 5 a],[.sl 5 b]]] [] 0 (fun r bx n=>n=0/\∃ c B,zof 5 c (a++b) B/\r = .bs 0 0 5 (a++b).length c/\bx = [B]):=by
 refine foX (fun i=>if i=1000000+37 then [true,true] else []) Tryz.func112 ?_;dsimp only[Tryz.f112]
 push_cast -dsimp
 refine loop (fun j:Nat=>⟨[(0,.sl 1 [[.sl 5 a],[.sl 5 b]]),(2,.sc (.slice none 0 0)),(3,.sc (.int .i64 (szN a.length b.length j:Nat))),(9,.sl 1 [[.sl 5 a],[.sl 5 b]]),(10,.sc (.int .i64 2)),(11,.sc (.int .i64 j))],[],0,0⟩) (fun j=>j<=2) (fun j=>2-j) 0 (by decide) ?_ ?_
 ·exact wk (by push_cast -dsimp [zb,za,CLe,ze,szN])
 intro j hj
 obtain rfl | rfl | rfl:j=0∨j=1∨j=2:=by omega
 ·have hn:(((a.length:Int))<0)=False:=eq_false (by omega)
  push_cast -dsimp [szN,hn]
  exact ⟨⟨by omega,by omega⟩,1,by decide,by decide,wk (by push_cast -dsimp [zb,za,CLe,ze,szN])⟩
 ·have hn:(((a.length:Int)+(b.length:Int))<0)=False:=eq_false (by omega)
  push_cast -dsimp [szN,hn]
  exact ⟨⟨by omega,by omega⟩,2,by decide,by decide,wk (by push_cast -dsimp [zb,za,CLe,ze,szN])⟩
 ·push_cast -dsimp [szN]
  refine YR [] [] (zeO (G:=G) (a.length+b.length) (by omega) (by omega)) rfl (by decide) (by decide) (by simp) (by push_cast -dsimp) (by push_cast -dsimp) (fun r bx' m hp=>?_)
  obtain ⟨rfl,c,B,h1,h2,h3,h4,rfl,rfl⟩:=hp
  have hre:∀ fp fo,C.reL fp fo B=B:=fun fp fo=>qw h4
  push_cast -dsimp [hre]
  refine loop (fun p:Nat×List C=>⟨[(0,.sl 1 [[.sl 5 a],[.sl 5 b]]),(6,.bs 0 0 5 (szN a.length b.length p.1) c),(25,.sl 1 [[.sl 5 a],[.sl 5 b]]),(26,.sc (.int .i64 2)),(27,.sc (.int .i64 p.1))],[p.2],0,0⟩) (fun p=>p.1<=2/\kM 5 c a b p.1 p.2) (fun p=>2-p.1) (0,B) ⟨Nat.zero_le _,h3,h4,by simp[szN,zoT]⟩ ?_ ?_
  ·exact j9.mk [] rfl rfl (Nat.zero_le _) rfl (by push_cast -dsimp [zb,za,CLe,ze,szN]) (by (push_cast -dsimp [zb,za,CLe,ze];exact zX h4))
  rintro ⟨j,X⟩ ⟨hj,hX⟩
  have hj:j<=2:=hj
  obtain rfl | rfl | rfl:j=0∨j=1∨j=2:=by omega
  ·have hs:=hX.step (r:=a) rfl (by simp[szN]) ka sa (by simp[szN];omega)
   push_cast -dsimp [szN]
   refine UI zfI zgc rfl rfl (by decide) rfl (qk ka) rfl (by rw[hX.len];omega) (Nat.zero_le _) (by omega) (by omega) (fun hc=>?_) (fun hc=>absurd hc (by omega))
   push_cast -dsimp
   have hs:kM 5 c a b 1 (spl X 0 a.flatten):=by simpa [szN] using hs
   exact ⟨(1,spl X 0 a.flatten),⟨Nat.le_succ 1,hs⟩,by (simp only;omega),j9.mk [] rfl rfl (Nat.zero_le _) rfl (by push_cast -dsimp [zb,za,CLe,ze,szN]) (by (push_cast -dsimp [zb,za,CLe,ze];exact zX hs.stay))⟩
  ·have hs:=hX.step (r:=b) rfl (by simp[szN]) kb sb (by simp[szN];omega)
   push_cast -dsimp [szN]
   refine UI zfI zgc rfl rfl (by decide) rfl (qk kb) rfl (by rw[hX.len];omega) (by omega) (by omega) (by omega) (fun hc=>?_) (fun hc=>absurd hc (by omega))
   push_cast -dsimp
   have hs:kM 5 c a b 2 (spl X (a.length*5) b.flatten):=by simpa [szN] using hs
   exact ⟨(2,spl X (a.length*5) b.flatten),⟨Nat.le_refl 2,hs⟩,by (simp only;omega),j9.mk [] rfl rfl (Nat.zero_le _) rfl (by push_cast -dsimp [zb,za,CLe,ze,szN]) (by (push_cast -dsimp [zb,za,CLe,ze];exact zX hs.stay))⟩
  ·push_cast -dsimp [szN]
   exact ⟨_,[X],0,⟨⟨rfl,c,X,⟨by rw[List.length_append];omega,h2,hX.len,hX.stay,by rw[List.length_append];exact hX.cells⟩,rfl,rfl⟩,Nat.zero_le _⟩,[],rfl,rfl,by (push_cast -dsimp [zb,za,CLe,ze];exact zX hX.stay),by push_cast -dsimp [zb,za,CLe,ze,List.length_append]⟩
theorem GC (a b:List (List C)) (ka:∀ r∈a,r.length=1) (kb:∀ r∈b,r.length=1) (sa:jI a) (sb:jI b) (la:a.length<=90000) (lb:b.length<=90000) (h0:0<a.length+b.length) :
  YX Tryz.prog G 75 [.sl 1 [[.sl 1 a],[.sl 1 b]]] [] 0 (fun r bx n=>n=0/\∃ c B,zof 1 c (a++b) B/\r = .bs 0 0 1 (a++b).length c/\bx = [B]):=by
 refine foX (fun i=>if i=1000000+30 then [true,true] else []) Tryz.func75 ?_;dsimp only[Tryz.f75]
 push_cast -dsimp
 refine loop (fun j:Nat=>⟨[(0,.sl 1 [[.sl 1 a],[.sl 1 b]]),(2,.sc (.slice none 0 0)),(3,.sc (.int .i64 (szN a.length b.length j:Nat))),(9,.sl 1 [[.sl 1 a],[.sl 1 b]]),(10,.sc (.int .i64 2)),(11,.sc (.int .i64 j))],[],0,0⟩) (fun j=>j<=2) (fun j=>2-j) 0 (by decide) ?_ ?_
 ·exact wk (by push_cast -dsimp [zb,za,CLe,ze,szN])
 intro j hj
 obtain rfl | rfl | rfl:j=0∨j=1∨j=2:=by omega
 ·have hn:(((a.length:Int))<0)=False:=eq_false (by omega)
  push_cast -dsimp [szN,hn]
  exact ⟨⟨by omega,by omega⟩,1,by decide,by decide,wk (by push_cast -dsimp [zb,za,CLe,ze,szN])⟩
 ·have hn:(((a.length:Int)+(b.length:Int))<0)=False:=eq_false (by omega)
  push_cast -dsimp [szN,hn]
  exact ⟨⟨by omega,by omega⟩,2,by decide,by decide,wk (by push_cast -dsimp [zb,za,CLe,ze,szN])⟩
 ·push_cast -dsimp [szN]
  refine YR [] [] (zcE (G:=G) (a.length+b.length) (by omega) (by omega)) rfl (by decide) (by decide) (by simp) (by push_cast -dsimp) (by push_cast -dsimp) (fun r bx' m hp=>?_)
  obtain ⟨rfl,c,B,h1,h2,h3,h4,rfl,rfl⟩:=hp
  have hre:∀ fp fo,C.reL fp fo B=B:=fun fp fo=>qw h4
  push_cast -dsimp [hre]
  refine loop (fun p:Nat×List C=>⟨[(0,.sl 1 [[.sl 1 a],[.sl 1 b]]),(6,.bs 0 0 1 (szN a.length b.length p.1) c),(25,.sl 1 [[.sl 1 a],[.sl 1 b]]),(26,.sc (.int .i64 2)),(27,.sc (.int .i64 p.1))],[p.2],0,0⟩) (fun p=>p.1<=2/\kM 1 c a b p.1 p.2) (fun p=>2-p.1) (0,B) ⟨Nat.zero_le _,h3,h4,by simp[szN,zoT]⟩ ?_ ?_
  ·exact j9.mk [] rfl rfl (Nat.zero_le _) rfl (by push_cast -dsimp [zb,za,CLe,ze,szN]) (by (push_cast -dsimp [zb,za,CLe,ze];exact zX h4))
  rintro ⟨j,X⟩ ⟨hj,hX⟩
  have hj:j<=2:=hj
  obtain rfl | rfl | rfl:j=0∨j=1∨j=2:=by omega
  ·have hs:=hX.step (r:=a) rfl (by simp[szN]) ka sa (by simp[szN];omega)
   push_cast -dsimp [szN]
   refine UI zhv zo3 rfl rfl (by decide) rfl (qk ka) rfl (by rw[hX.len];omega) (Nat.zero_le _) (by omega) (by omega) (fun hc=>?_) (fun hc=>absurd hc (by omega))
   push_cast -dsimp
   have hs:kM 1 c a b 1 (spl X 0 a.flatten):=by simpa [szN] using hs
   exact ⟨(1,spl X 0 a.flatten),⟨Nat.le_succ 1,hs⟩,by (simp only;omega),j9.mk [] rfl rfl (Nat.zero_le _) rfl (by push_cast -dsimp [zb,za,CLe,ze,szN]) (by (push_cast -dsimp [zb,za,CLe,ze];exact zX hs.stay))⟩
  ·have hs:=hX.step (r:=b) rfl (by simp[szN]) kb sb (by simp[szN];omega)
   push_cast -dsimp [szN]
   refine UI zhv zo3 rfl rfl (by decide) rfl (qk kb) rfl (by rw[hX.len];omega) (by omega) (by omega) (by omega) (fun hc=>?_) (fun hc=>absurd hc (by omega))
   push_cast -dsimp
   have hs:kM 1 c a b 2 (spl X (a.length) b.flatten):=by simpa [szN] using hs
   exact ⟨(2,spl X (a.length) b.flatten),⟨Nat.le_refl 2,hs⟩,by (simp only;omega),j9.mk [] rfl rfl (Nat.zero_le _) rfl (by push_cast -dsimp [zb,za,CLe,ze,szN]) (by (push_cast -dsimp [zb,za,CLe,ze];exact zX hs.stay))⟩
  ·push_cast -dsimp [szN]
   exact ⟨_,[X],0,⟨⟨rfl,c,X,⟨by rw[List.length_append];omega,h2,hX.len,hX.stay,by rw[List.length_append];exact hX.cells⟩,rfl,rfl⟩,Nat.zero_le _⟩,[],rfl,rfl,by (push_cast -dsimp [zb,za,CLe,ze];exact zX hX.stay),by push_cast -dsimp [zb,za,CLe,ze,List.length_append]⟩
theorem G3:Fun Tryz.prog G 75 [.sl 1 [[.sl 1 []],[.sl 1 []]]] (.sl 1 []) 0:=by
 refine fon Tryz.func75 ?_;dsimp only[Tryz.f75]
 push_cast -dsimp
 refine loop (fun j:Nat=>⟨[(0,.sl 1 [[.sl 1 []],[.sl 1 []]]),(2,.sc (.slice none 0 0)),(3,.sc (.int .i64 0)),(9,.sl 1 [[.sl 1 []],[.sl 1 []]]),(10,.sc (.int .i64 2)),(11,.sc (.int .i64 j))],[],0,0⟩) (fun j=>j<=2) (fun j=>2-j) 0 (by decide) ?_ ?_
 ·exact wk
 intro j hj
 obtain rfl | rfl | rfl:j=0∨j=1∨j=2:=by omega
 ·push_cast -dsimp
  exact ⟨1,by decide,by decide,wk⟩
 ·push_cast -dsimp
  exact ⟨2,by decide,by decide,wk⟩
 ·push_cast -dsimp
  refine cl (uJ) ?_;push_cast -dsimp
  refine loop (fun j:Nat=>⟨[(0,.sl 1 [[.sl 1 []],[.sl 1 []]]),(6,.own 0 9 1 []),(25,.sl 1 [[.sl 1 []],[.sl 1 []]]),(26,.sc (.int .i64 2)),(27,.sc (.int .i64 j))],[],1,0⟩) (fun j=>j<=2) (fun j=>2-j) 0 (by decide) ?_ ?_
  ·exact wks [.inr (9,1)]
  intro j hj
  obtain rfl | rfl | rfl:j=0∨j=1∨j=2:=by omega
  ·push_cast -dsimp
   exact ⟨1,by decide,by decide,wks [.inl 0]⟩
  ·push_cast -dsimp
   exact ⟨2,by decide,by decide,wks [.inl 0]⟩
  ·push_cast -dsimp
   exact dn
end
end
end Go.Proofs.YtaipngaejfndgaaGreatDoor.Vcg
section
namespace Go.Proofs.YtaipngaejfndgaaGreatDoor.Kit
open Go.RowKit
theorem km {a b:ByteArray} (h:a=b):Ending.returned (.string a) = .returned (.string b):=by rw[h]
def toL (s:ByteArray):List UInt8:=s.data.toList
def ofL (l:List UInt8):ByteArray:=⟨l.toArray⟩
@[simp] theorem zct (l:List UInt8):toL (ofL l)=l:=by simp[toL,ofL]
@[simp] theorem zpr (s:ByteArray):ofL (toL s)=s:=by cases s;simp[toL,ofL]
theorem ke (a b:List UInt8):ofL a++ofL b=ofL (a++b):=ByteArray.mk_append_mk a b
theorem Hw (s:ByteArray):(toL s).length=s.size:=Array.length_toList
theorem QD (l:List UInt8):(ofL l).size=l.length:=by rw[←Hw,zct]
def join (sep:ByteArray) (xs:List ByteArray):ByteArray:=⟨(Lib.join (xs.map (·.data.toList)) sep.data.toList).toArray⟩
theorem join_one (sep x:ByteArray):join sep [x]=x:=by
 cases x;simp[join,Lib.join_one]
end Go.Proofs.YtaipngaejfndgaaGreatDoor.Kit
end
section
namespace Go.Proofs.YtaipngaejfndgaaGreatDoor.Kit
open Go.RowKit
def byteCells (l:List UInt8):Array Value:=(l.map fun c=>Value.int .u8 (c.toNat:Int)).toArray
theorem Vz (w:World) (l:List UInt8) (T:TypeId) (fr:Nat×Nat) (n:Nat) (hn:n=w.heap.size):Lib.Bytes (w.alloc (.cells (byteCells l) T fr)) n 0 (ofL l):=by
 intro i h
 subst hn
 have h1:(w.alloc (.cells (byteCells l) T fr)).heap[w.heap.size]?=some (.cells (byteCells l) T fr):=by
  show (w.heap.push _)[w.heap.size]?=_
  rw[Array.getElem?_push,if_pos rfl]
 simp only[World.cell?,h1]
 show (byteCells l)[0+i]?=_
 have h2:i<l.length:=by rw[QD]at h;exact h
 rw[Nat.zero_add,byteCells,List.getElem?_toArray,List.getElem?_map,List.getElem?_eq_getElem h2]
 rfl
theorem kG {P:Program} (w:World) (l:List UInt8) (src e dst:TypeId) (hs:P.underlying src=some (.slice e)) (he:P.underlying e=some (.int .u8)) (hd:P.underlying dst=some .string) (cs:Array Value) (hcs:cs=byteCells l) (fr:Nat×Nat) (m cap n:Nat) (hm:m=w.heap.size) (hn:n=l.length) :
  (convert src dst (.slice (some ⟨m,0,none⟩) n cap)).run P (w.alloc (.cells cs e fr)) = .ok (.string (ofL l)) (w.alloc (.cells cs e fr)):=by
 subst hcs hm hn
 have:=Lib.run_convert_whole (P:=P) (w.alloc (.cells (byteCells l) e fr)) src e dst hs he hd w.heap.size 0 (ofL l) (Vz w l e fr _ rfl) cap
 rw[QD]at this
 exact this
end Go.Proofs.YtaipngaejfndgaaGreatDoor.Kit
end
section
namespace Go.Proofs.YtaipngaejfndgaaGreatDoor
open Go.RowKit
namespace QuoteWalk
open Kit QuotePlain
theorem Mh {c:UInt8} (h:good c=false):¬(32:Int)<=(c.toNat:Int)∨((32:Int)<=(c.toNat:Int)/\¬(c.toNat:Int)<=126)∨((32:Int)<=(c.toNat:Int)/\(c.toNat:Int)<=126/\((c.toNat:Int) != 34)=false) ∨
  ((32:Int)<=(c.toNat:Int)/\(c.toNat:Int)<=126/\((c.toNat:Int) != 34)=true/\((c.toNat:Int) != 92)=false):=by
 simp only[good,decide_eq_false_iff_not]at h
 simp only[bne_iff_ne,ne_eq,bne_eq_false_iff_eq]
 omega
theorem kh {c:UInt8} (h:good c=true):(32:Int)<=(c.toNat:Int)/\(c.toNat:Int)<=126/\((c.toNat:Int) != 34)=true/\((c.toNat:Int) != 92)=true:=by
 simp only[good,decide_eq_true_eq]at h
 refine ⟨by omega,by omega,?_,?_⟩<;>(simp only[bne_iff_ne,ne_eq];omega)
theorem yr (c:UInt8) (w:World) :
  Calls Tryz.prog 214 #[.int .u8 c.toNat] w fun e w'=>e = .returned (.bool (good c))/\w=w':=by
 have hc:=c.toNat_lt
 cases hg:good c with
 | true =>
  obtain ⟨g1,g2,g3,g4⟩:=kh hg
  clear hg
  go_enter Tryz.func214,Tryz.ntmps214
  go_wp2
  go_ret
  exact ⟨rfl,rfl⟩
 | false =>
  rcases Mh hg with h | ⟨h0,h⟩ | ⟨h0,h1,h2⟩ | ⟨h0,h1,h2,h3⟩
  all_goals clear hg
  ·go_enter Tryz.func214,Tryz.ntmps214
   go_wp2
   go_ret
   exact ⟨rfl,rfl⟩
  ·go_enter Tryz.func214,Tryz.ntmps214
   go_wp2
   go_ret
   exact ⟨rfl,rfl⟩
  ·go_enter Tryz.func214,Tryz.ntmps214
   go_wp2
   go_ret
   exact ⟨rfl,rfl⟩
  ·go_enter Tryz.func214,Tryz.ntmps214
   go_wp2
   go_ret
   exact ⟨rfl,rfl⟩
theorem Gv (c:UInt8) (w:World) (hg:good c=true) :
  Calls Tryz.prog 118 #[.int .u8 c.toNat] w fun e w'=>e = .returned (.string (ofL (qb c)))/\Below w.heap.size w w':=by
 have hc:=c.toNat_lt
 have hq:=Lib.hid (show qb c = [c] by rw[qb,if_pos hg])
 obtain ⟨g1,g2,g3,g4⟩:=kh hg
 have hcv:=kG (P:=Tryz.prog) w [c] 164 5 9 Tryz.underlying164 Tryz.underlying5 Tryz.underlying9 #[.int .u8 c.toNat] rfl (0,0) w.heap.size 1 1 rfl rfl
 clear hg
 go_enter Tryz.func118,Tryz.ntmps118
 go_wp2
 go_ret
 exact ⟨by rw[hq.out];rfl,(Below.refl _ _).alloc (Nat.le_refl _) _⟩
theorem zqK (n:Nat) (h:n<16) (w:World):(Instr.index 9 (.string ⟨#[48,49,50,51,52,53,54,55,56,57,97,98,99,100,101,102]⟩) (.int .u8 (n:Int))).run Tryz.prog w = .ok (.int .u8 ((H6 n).toNat:Int)) w:=by
 rcases (by omega:n=0∨n=1∨n=2∨n=3∨n=4∨n=5∨n=6∨n=7∨n=8∨n=9∨n=10∨n=11∨n=12∨n=13∨n=14∨n=15) with rfl | rfl | rfl | rfl | rfl | rfl | rfl | rfl | rfl | rfl | rfl | rfl | rfl | rfl | rfl | rfl
 all_goals kernel_rfl
theorem zjw (c:UInt8) (w:World):(Instr.index 9 (.string ⟨#[48,49,50,51,52,53,54,55,56,57,97,98,99,100,101,102]⟩) (.int .u8 ((c.toNat:Int) / 16))).run Tryz.prog w = .ok (.int .u8 ((H6 (c.toNat / 16)).toNat:Int)) w:=
 zqK (c.toNat / 16) (by have:=c.toNat_lt;omega) w
theorem zjs (c:UInt8) (w:World):(Instr.index 9 (.string ⟨#[48,49,50,51,52,53,54,55,56,57,97,98,99,100,101,102]⟩) (.int .u8 ((c.toNat:Int) % 16))).run Tryz.prog w = .ok (.int .u8 ((H6 (c.toNat % 16)).toNat:Int)) w:=
 zqK (c.toNat % 16) (by omega) w
theorem zkW (c:UInt8):IntKind.u8.wrap ((c.toNat:Int) / 16)=(c.toNat:Int) / 16:=by
 have:=c.toNat_lt
 exact IntWalk.u8_in _ (by omega)
theorem zlz (c:UInt8):IntKind.u8.wrap ((c.toNat:Int) % 16)=(c.toNat:Int) % 16:=by
 have:=c.toNat_lt
 exact IntWalk.u8_in _ (by omega)
theorem zlJ (c:UInt8):(c.toNat:Int).tmod 16=(c.toNat:Int) % 16:=Int.tmod_eq_emod_of_nonneg (by omega)
theorem yf (c:UInt8) (w:World) (hg:good c=false) :
  Calls Tryz.prog 118 #[.int .u8 c.toNat] w fun e w'=>e = .returned (.string (ofL (qb c)))/\Below w.heap.size w w':=by
 have hc:=c.toNat_lt
 have hq:=Lib.hid (show qb c = [92,120,H6 (c.toNat / 16),H6 (c.toNat % 16)] by rw[qb,hg];rfl)
 have hb:=Mh hg
 have x1:=zjw c
 have x2:=zjs c
 have y1:=zkW c
 have y2:=zlz c
 have y3:=zlJ c
 have hcv:=fun w2:World=>kG (P:=Tryz.prog) w2 [92,120,H6 (c.toNat / 16),H6 (c.toNat % 16)] 164 5 9 Tryz.underlying164 Tryz.underlying5 Tryz.underlying9 #[.int .u8 92,.int .u8 120,.int .u8 (H6 (c.toNat / 16)).toNat,.int .u8 (H6 (c.toNat % 16)).toNat] rfl (0,0) w2.heap.size 4 4 rfl rfl
 clear hg
 rcases hb with h | ⟨h0,h⟩ | ⟨h0,h1,h2⟩ | ⟨h0,h1,h2,h3⟩
 ·go_enter Tryz.func118,Tryz.ntmps118
  go_wp2
  go_still_tail 6,(by kernel_rfl)
  change wpList _ _ _ _ _ w.drew
  obtain ⟨w2,hw2,hsz⟩:∃ w2:World,Below w.heap.size w w2/\w2=w.drew:=⟨_,(Below.refl _ _).drew,rfl⟩
  rw[←hsz]
  clear hsz
  go_wp2
  go_ret
  exact ⟨by rw[hq.out];rfl,hw2.alloc hw2.size _⟩
 ·go_enter Tryz.func118,Tryz.ntmps118
  go_wp2
  go_still_tail 6,(by kernel_rfl)
  change wpList _ _ _ _ _ w.drew
  obtain ⟨w2,hw2,hsz⟩:∃ w2:World,Below w.heap.size w w2/\w2=w.drew:=⟨_,(Below.refl _ _).drew,rfl⟩
  rw[←hsz]
  clear hsz
  go_wp2
  go_ret
  exact ⟨by rw[hq.out];rfl,hw2.alloc hw2.size _⟩
 ·go_enter Tryz.func118,Tryz.ntmps118
  go_wp2
  go_still_tail 6,(by kernel_rfl)
  change wpList _ _ _ _ _ w.drew
  obtain ⟨w2,hw2,hsz⟩:∃ w2:World,Below w.heap.size w w2/\w2=w.drew:=⟨_,(Below.refl _ _).drew,rfl⟩
  rw[←hsz]
  clear hsz
  go_wp2
  go_ret
  exact ⟨by rw[hq.out];rfl,hw2.alloc hw2.size _⟩
 ·go_enter Tryz.func118,Tryz.ntmps118
  go_wp2
  go_still_tail 6,(by kernel_rfl)
  change wpList _ _ _ _ _ w.drew
  obtain ⟨w2,hw2,hsz⟩:∃ w2:World,Below w.heap.size w w2/\w2=w.drew:=⟨_,(Below.refl _ _).drew,rfl⟩
  rw[←hsz]
  clear hsz
  go_wp2
  go_ret
  exact ⟨by rw[hq.out];rfl,hw2.alloc hw2.size _⟩
theorem Mn (c:UInt8) (w:World) :
  Calls Tryz.prog 118 #[.int .u8 c.toNat] w fun e w'=>e = .returned (.string (ofL (qb c)))/\Below w.heap.size w w':=by
 cases h:good c with
 | true=>exact Gv c w h
 | false=>exact yf c w h
end QuoteWalk
end Go.Proofs.YtaipngaejfndgaaGreatDoor
end
section
namespace Go.Proofs
open Go.Shelf
def Tryz.zlays166_ren:Go.Shelf.Ren:=⟨fun | 166=>174 | 240=>215 | 276=>249 | n=>n,fun | 0=>0 | 3=>3 | 4=>4 | 9=>9 | 20=>20 | 37=>164 | 70=>207 | 72=>209 | 75=>212 | 164=>270 | 80=>215 | 5=>5 | n=>n,fun | n=>n⟩
theorem Tryz.zlays166:Go.Proofs.Lays.n166 Tryz.prog Tryz.zlays166_ren:={
 mixed:=by kernel_rfl
 f166:=Tryz.func174.trans (congrArg some (by kernel_rfl))
 f240:=Tryz.func215.trans (congrArg some (by kernel_rfl))
 f276:=Tryz.func249.trans (congrArg some (by kernel_rfl))
 t0:=Tryz.underlying0
 a0:=Tryz.isAgg0
 z0:=Tryz.sizeOf0
 v0:=Tryz.zeroValue0
 t3:=Tryz.underlying3
 a3:=Tryz.isAgg3
 z3:=Tryz.sizeOf3
 v3:=Tryz.zeroValue3
 t4:=Tryz.underlying4
 a4:=Tryz.isAgg4
 z4:=Tryz.sizeOf4
 v4:=Tryz.zeroValue4
 t9:=Tryz.underlying9
 a9:=Tryz.isAgg9
 z9:=Tryz.sizeOf9
 v9:=Tryz.zeroValue9
 t20:=Tryz.underlying20
 a20:=Tryz.isAgg20
 z20:=Tryz.sizeOf20
 v20:=Tryz.zeroValue20
 t37:=Tryz.underlying164
 a37:=Tryz.isAgg164
 z37:=Tryz.sizeOf164
 v37:=Tryz.zeroValue164
 t70:=Tryz.underlying207
 a70:=Tryz.isAgg207
 z70:=Tryz.sizeOf207
 v70:=Tryz.zeroValue207
 t72:=Tryz.underlying209
 a72:=Tryz.isAgg209
 z72:=Tryz.sizeOf209
 v72:=Tryz.zeroValue209
 t75:=Tryz.underlying212
 a75:=Tryz.isAgg212
 z75:=Tryz.sizeOf212
 v75:=Tryz.zeroValue212
 t164:=Tryz.underlying270
 a164:=Tryz.isAgg270
 z164:=Tryz.sizeOf270
 v164:=Tryz.zeroValue270 }
theorem Tryz.zBuilder_Extra_166:Builder.Extra Tryz.prog Tryz.zlays166_ren:={
 sizeBuilder:=by kernel_rfl
 liesBuilder:=by kernel_rfl
 t5:=Tryz.underlying5
 a5:=Tryz.isAgg5
 z5:=Tryz.sizeOf5
 v5:=Tryz.zeroValue5
 infoByte:=by kernel_rfl
 cellsByte:=by kernel_rfl
 sizeByte:=by kernel_rfl
 neB5:=by decide }
def Tryz.zlays167_ren:Go.Shelf.Ren:=⟨fun | 167=>213 | 240=>215 | 276=>249 | n=>n,fun | 0=>0 | 4=>4 | 5=>5 | 9=>9 | 20=>20 | 37=>164 | 70=>207 | 72=>209 | 75=>212 | 164=>270 | 80=>215 | n=>n,fun | n=>n⟩
theorem Tryz.zlays167:Go.Proofs.Lays.n167 Tryz.prog Tryz.zlays167_ren:={
 mixed:=by kernel_rfl
 f167:=Tryz.func213.trans (congrArg some (by kernel_rfl))
 f240:=Tryz.func215.trans (congrArg some (by kernel_rfl))
 f276:=Tryz.func249.trans (congrArg some (by kernel_rfl))
 t0:=Tryz.underlying0
 a0:=Tryz.isAgg0
 z0:=Tryz.sizeOf0
 v0:=Tryz.zeroValue0
 t4:=Tryz.underlying4
 a4:=Tryz.isAgg4
 z4:=Tryz.sizeOf4
 v4:=Tryz.zeroValue4
 t5:=Tryz.underlying5
 a5:=Tryz.isAgg5
 z5:=Tryz.sizeOf5
 v5:=Tryz.zeroValue5
 t9:=Tryz.underlying9
 a9:=Tryz.isAgg9
 z9:=Tryz.sizeOf9
 v9:=Tryz.zeroValue9
 t20:=Tryz.underlying20
 a20:=Tryz.isAgg20
 z20:=Tryz.sizeOf20
 v20:=Tryz.zeroValue20
 t37:=Tryz.underlying164
 a37:=Tryz.isAgg164
 z37:=Tryz.sizeOf164
 v37:=Tryz.zeroValue164
 t70:=Tryz.underlying207
 a70:=Tryz.isAgg207
 z70:=Tryz.sizeOf207
 v70:=Tryz.zeroValue207
 t72:=Tryz.underlying209
 a72:=Tryz.isAgg209
 z72:=Tryz.sizeOf209
 v72:=Tryz.zeroValue209
 t75:=Tryz.underlying212
 a75:=Tryz.isAgg212
 z75:=Tryz.sizeOf212
 v75:=Tryz.zeroValue212
 t164:=Tryz.underlying270
 a164:=Tryz.isAgg270
 z164:=Tryz.sizeOf270
 v164:=Tryz.zeroValue270 }
theorem Tryz.zBuilder_Extra_167:Builder.Extra Tryz.prog Tryz.zlays167_ren:={
 sizeBuilder:=by kernel_rfl
 liesBuilder:=by kernel_rfl
 t5:=Tryz.underlying5
 a5:=Tryz.isAgg5
 z5:=Tryz.sizeOf5
 v5:=Tryz.zeroValue5
 infoByte:=by kernel_rfl
 cellsByte:=by kernel_rfl
 sizeByte:=by kernel_rfl
 neB5:=by decide }
open Go.RowKit in
theorem Tryz.zBuilder_WriteByte (B b:Nat) (bs:List Value) (c:Int) (w:World) (h:Lib.IsBuilder 209 5 B b bs w) (hlen:bs.length+1<=140737488355328) (hBw:B<=w.heap.size) :
  Calls Tryz.prog 213 #[.pointer (some ⟨b,0,none⟩),.int .u8 c] w fun e w'=>e = .returned .nilIface/\(Lib.BuilderAt 209 5 B b (.pointer (some ⟨b,0,none⟩)) (bs++[.int .u8 c]) w'/\Below B w w'):=Any.Builder_WriteByte Tryz.zlays167 Tryz.zBuilder_Extra_167 B b bs c w h hlen hBw
open Go.RowKit in
theorem Tryz.zBuilder_WriteString (B b:Nat) (bs:List Value) (s:ByteArray) (w:World) (h:Lib.IsBuilder 209 5 B b bs w) (hlen:bs.length+s.size<=140737488355328) (hBw:B<=w.heap.size) :
  Calls Tryz.prog 174 #[.pointer (some ⟨b,0,none⟩),.string s] w fun e w'=>e = .returned (.tuple #[.int .i64 s.size,.nilIface])/\(Lib.BuilderAt 209 5 B b (.pointer (some ⟨b,0,none⟩)) (bs++Lib.strCells s) w'/\Below B w w'):=Any.Builder_WriteString Tryz.zlays166 Tryz.zBuilder_Extra_166 B b bs s w h hlen hBw
end Go.Proofs
end
section
namespace Go.Proofs.YtaipngaejfndgaaGreatDoor
open Go.RowKit
namespace QuoteWalk
open Kit QuotePlain
def pre (s:ByteArray) (k:Nat):Bs:=34 :: mid ((toL s).take k)
theorem yI (s:ByteArray):pre s 0 = [34]:=by simp[pre,mid]
theorem vH (s:ByteArray) (k:Nat) (h:k<s.size) {c:UInt8} (hc:s[k]=c):pre s (k+1)=pre s k++qb c:=by
 have h':k<(toL s).length:=by rw[Hw];exact h
 have:(toL s)[k]=c:=hc
 rw[pre,pre,List.take_succ_eq_append_getElem h',this,mid,mid,List.flatMap_append]
 simp
theorem zcp (s:ByteArray) (k:Nat) (h:s.size<=k):pre s k++[34]=z6 (toL s):=by
 rw[pre,List.take_of_length_le (by rw[Hw];exact h)];rfl
theorem zi0 (c:UInt8):(qb c).length<=4:=by unfold qb;split<;>simp
theorem mid_len (l:Bs):(mid l).length<=4*l.length:=by
 induction l with
 | nil=>simp[mid]
 | cons c l ih =>
  have:=zi0 c
  simp only[mid,List.flatMap_cons,List.length_append,List.length_cons]at ih ⊢
  omega
theorem zdm (s:ByteArray) (k:Nat):(pre s k).length<=1+4*k:=by
 have h1:=mid_len ((toL s).take k)
 have h2:((toL s).take k).length<=k:=List.length_take_le _ _
 simp only[pre,List.length_cons];omega
theorem refQuote_walk (s:ByteArray) (w:World) (hs:s.size<=1099511627776) :
  Calls Tryz.prog 67 #[.string s] w fun e w'=>e = .returned (.string (ofL (z6 (toL s))))/\Below w.heap.size w w':=by
 go_enter Tryz.func67,Tryz.ntmps67
 go_wp2
 go_loopw [3,4] (fun o i wr=>∃ k:Nat,k<=s.size/\i = .int .i64 k/\o = .string (ofL (pre s k))/\Below w.heap.size w wr) (fun _ i _=>s.size-(intOf i).toNat)
 case atStart=>exact ⟨0,by omega,rfl,by rw[yI];rfl,Below.refl _ _⟩
 case round =>
  obtain ⟨k,hk,rfl,rfl,hB⟩:=hrel
  have hpl:=zdm s k
  have hps:(ofL (pre s k)).size<=1+4*k:=by rw[QD];exact hpl
  by_cases hlt:k<s.size
  ·obtain ⟨c,hc⟩:∃ c,s[k]=c:=⟨_,rfl⟩
   have hsn:=Lib.hid (vH s k hlt hc)
   have hql:=zi0 c
   have hqs:(ofL (qb c)).size<=4:=by rw[QD];exact hql
   generalize hp:ofL (pre s k)=p at *
   have hp':=Lib.hid hp
   clear hp
   go_wp2_with fail
   refine (Mn c _).mono ?_
   rintro e w1 ⟨rfl,hb1⟩
   generalize hq:ofL (qb c)=q at *
   have hq':=Lib.hid hq
   clear hq
   go_wp2
   go_roundw
   case rel=>exact ⟨k+1,by omega,by go_num,by rw[hsn.out,←ke,hp'.out,hq'.out],hB.trans (hb1.mono hB.size)⟩
   case measure=>simp[intOf];omega
  ·have hfin:=Lib.hid (zcp s k (by omega))
   generalize hp:ofL (pre s k)=p at *
   have hp':=Lib.hid hp
   clear hp
   go_wp2
   go_ret
   exact ⟨km (by rw[←hp'.out,←hfin.out,←ke];rfl),hB⟩
def Bld (B:Nat) (l:Bs) (w:World):Prop:=Lib.BuilderAt 209 5 B B (.pointer (some ⟨B,0,none⟩)) (Lib.byteCells l) w
theorem Bld.alloc {B:Nat} {l:Bs} {w:World} (h:Bld B l w) (o:Obj):Bld B l (w.alloc o):=by
 obtain ⟨h1,v,h2,h3,h4⟩:=h
 refine ⟨h1,v,?_,h3.alloc o,h4⟩
 rw[Lib.alloc_old _ _ _ (Array.getElem?_eq_some_iff.1 h2).1];exact h2
theorem Bld.drew {B:Nat} {l:Bs} {w:World} (h:Bld B l w):Bld B l w.drew:=h
theorem NN (B:Nat) (l:Bs) (c:UInt8) (w:World) (h:Bld B l w) (hl:l.length<140737488355328) (hB:B<=w.heap.size) :
  Calls Tryz.prog 213 #[.pointer (some ⟨B,0,none⟩),.int .u8 (c.toNat:Int)] w fun e w'=>e = .returned .nilIface/\Bld B (l++[c]) w'/\Below B w w':=by
 refine (Tryz.zBuilder_WriteByte B B (Lib.byteCells l) c.toNat w (.inr h) (by rw[Lib.byteCells_length];omega) hB).mono ?_
 rintro e w' ⟨h1,h2,h3⟩
 exact ⟨h1,by rw[Bld,Lib.byteCells_append];exact h2,h3⟩
theorem ue (w:World) (c:UInt8) :
  Calls Tryz.prog 213 #[.pointer (some ⟨w.heap.size,0,none⟩),.int .u8 (c.toNat:Int)] (w.alloc (.cells #[.pointer none,.slice none 0 0] 209 (0,0))) fun e w'=>e = .returned .nilIface/\Bld w.heap.size [c] w'/\Below w.heap.size w w':=by
 refine (Tryz.zBuilder_WriteByte w.heap.size w.heap.size [] c.toNat _ (Lib.fresh_isBuilder _ _ w) (by decide) (by simp)).mono ?_
 rintro e w' ⟨h1,h2,h3⟩
 exact ⟨h1,h2,((Below.refl _ _).alloc (Nat.le_refl _) _).trans h3⟩
theorem xP (B:Nat) (l:Bs) (x:ByteArray) (w:World) (h:Bld B l w) (hl:l.length+x.size<=140737488355328) (hB:B<=w.heap.size) :
  Calls Tryz.prog 174 #[.pointer (some ⟨B,0,none⟩),.string x] w fun e w'=>e = .returned (.tuple #[.int .i64 x.size,.nilIface])/\Bld B (l++toL x) w'/\Below B w w':=by
 refine (Tryz.zBuilder_WriteString B B (Lib.byteCells l) x w (.inr h) (by rw[Lib.byteCells_length];omega) hB).mono ?_
 rintro e w' ⟨h1,h2,h3⟩
 exact ⟨h1,by rw[Bld,Lib.byteCells_append];exact h2,h3⟩
theorem zdJ (B:Nat) (l:Bs) (w:World) (h:Bld B l w) (hB:B<=w.heap.size) :
  Calls Tryz.prog 175 #[.pointer (some ⟨B,0,none⟩)] w fun e w'=>e = .returned (.string (ofL l))/\Below B w w':=
 Tryz.Builder_String_any B B l w (.inr h) hB
theorem zoy (c:UInt8):bits BinOp.and IntKind.u8 (c.toNat:Int) 15=(c.toNat:Int) % 16:=by
 have:=zcT (p:=fun c=>decide (bits BinOp.and IntKind.u8 (c.toNat:Int) 15=(c.toNat:Int) % 16)) (by decide +kernel) c
 exact of_decide_eq_true this
theorem quote_walk (s:ByteArray) (w:World) (hs:s.size<=1099511627776) :
  Calls Tryz.prog 171 #[.string s] w fun e w'=>e = .returned (.string (ofL (z6 (toL s))))/\Below w.heap.size w w':=by
 go_enter Tryz.func171,Tryz.ntmps171
 go_wp2_with fail
 refine (ue w 34).mono ?_
 rintro e w1 ⟨rfl,hI1,hB1⟩
 go_wp2_with fail
 go_loopw [9] (fun i wr=>∃ k:Nat,k<=s.size/\i = .int .i64 k/\Bld w.heap.size (pre s k) wr/\Below w.heap.size w wr) (fun i _=>s.size-(intOf i).toNat)
 case atStart=>exact ⟨0,by omega,rfl,by rw[yI];exact hI1,hB1⟩
 case round =>
  obtain ⟨k,hk,rfl,hI,hB⟩:=hrel
  clear hI1 hB1
  have hpl:=zdm s k
  by_cases hlt:k<s.size
  ·obtain ⟨c,hc⟩:∃ c,s[k]=c:=⟨_,rfl⟩
   have hsn:=Lib.hid (vH s k hlt hc)
   go_wp2_with fail
   refine (yr c _).mono ?_
   rintro e w' ⟨rfl,rfl⟩
   cases hg:good c with
   | true =>
    have hq:=Lib.hid (show qb c = [c] by rw[qb,if_pos hg])
    clear hg
    go_wp2_with fail
    refine (NN w.heap.size (pre s k) c _ hI (by omega) hB.size).mono ?_
    rintro e w2 ⟨rfl,hI2,hb2⟩
    go_wp2
    go_roundw
    case rel=>exact ⟨k+1,by omega,by go_num,by rw[hsn.out,hq.out];exact hI2,hB.trans hb2⟩
    case measure=>simp[intOf];omega
   | false =>
    have hq:=Lib.hid (show qb c = [92,120,H6 (c.toNat / 16),H6 (c.toNat % 16)] by rw[qb,hg];rfl)
    clear hg
    have x1:=zjw c
    have x2:=zjs c
    have x3:=zoy c
    have hcv:=fun w2:World=>kG (P:=Tryz.prog) w2 [92,120,H6 (c.toNat / 16),H6 (c.toNat % 16)] 164 5 9 Tryz.underlying164 Tryz.underlying5 Tryz.underlying9 #[.int .u8 92,.int .u8 120,.int .u8 (H6 (c.toNat / 16)).toNat,.int .u8 (H6 (c.toNat % 16)).toNat] rfl (0,0) w2.heap.size 4 4 rfl rfl
    go_wp2_with fail
    go_still_tail 6,(by kernel_rfl)
    change wpList _ _ _ _ _ wr.drew
    obtain ⟨w2,hw2,hI2,hsz⟩:∃ w2:World,Below w.heap.size w w2/\Bld w.heap.size (pre s k) w2/\w2=wr.drew:=⟨_,hB.drew,hI.drew,rfl⟩
    rw[←hsz]
    clear hsz hI hB
    go_wp2_with fail
    refine (xP w.heap.size (pre s k) (ofL [92,120,H6 (c.toNat / 16),H6 (c.toNat % 16)]) _ (hI2.alloc _) (by rw[QD];show _+4<=_;omega) (by have:=hw2.size;simp;omega)).mono ?_
    rintro e w3 ⟨rfl,hI3,hb3⟩
    rw[zct]at hI3
    have hB3:=(hw2.alloc hw2.size _).trans hb3
    clear hb3 hcv x1 x2 x3 hI2
    go_wp2
    go_roundw
    case rel=>exact ⟨k+1,by omega,by go_num,by rw[hsn.out,hq.out];exact hI3,hB3⟩
    case measure=>simp[intOf];omega
  ·have hfin:=Lib.hid (zcp s k (by omega))
   go_wp2_with fail
   refine (NN w.heap.size (pre s k) 34 _ hI (by omega) hB.size).mono ?_
   rintro e w2 ⟨rfl,hI2,hb2⟩
   go_wp2_with fail
   refine (zdJ w.heap.size _ _ hI2 (hB.trans hb2).size).mono ?_
   rintro e w3 ⟨rfl,hb3⟩
   go_wp2
   go_ret
   exact ⟨km (by rw[hfin.out]),(hB.trans hb2).trans hb3⟩
end QuoteWalk
end Go.Proofs.YtaipngaejfndgaaGreatDoor
end
namespace Go.Proofs.YtaipngaejfndgaaGreatDoor.Vcg
section
open Go.RowKit
def phr:List (List UInt8):=[[],[99,97,110,110,111,116,32,99,114,101,97,116,101,32,100,105,114,101,99,116,111,114,121,32,65,58,32,69],[99,97,110,110,111,116,32,114,101,109,111,118,101,32,65,58,32,69],[114,101,102,117,115,105,110,103,32,116,111,32,114,101,109,111,118,101,32,34,46,34,32,111,114,32,34,46,46,34,32,100,105,114,101,99,116,111,114,121,58,32,115,107,105,112,112,105,110,103,32,65],[105,116,32,105,115,32,100,97,110,103,101,114,111,117,115,32,116,111,32,111,112,101,114,97,116,101,32,114,101,99,117,114,115,105,118,101,108,121,32,111,110,32,65],[102,97,105,108,101,100,32,116,111,32,97,99,99,101,115,115,32,65,58,32,69],[65,58,32,104,97,114,100,32,108,105,110,107,32,110,111,116,32,97,108,108,111,119,101,100,32,102,111,114,32,100,105,114,101,99,116,111,114,121],[102,97,105,108,101,100,32,116,111,32,99,114,101,97,116,101,32,104,97,114,100,32,108,105,110,107,32,66,58,32,69],[102,97,105,108,101,100,32,116,111,32,99,114,101,97,116,101,32,115,121,109,98,111,108,105,99,32,108,105,110,107,32,66,58,32,69],[65,32,97,110,100,32,66,32,97,114,101,32,116,104,101,32,115,97,109,101,32,102,105,108,101],[116,97,114,103,101,116,32,65,32,105,115,32,110,111,116,32,97,32,100,105,114,101,99,116,111,114,121],[99,97,110,110,111,116,32,115,116,97,116,32,65,58,32,69],[99,97,110,110,111,116,32,111,118,101,114,119,114,105,116,101,32,110,111,110,45,100,105,114,101,99,116,111,114,121,32,66,32,119,105,116,104,32,100,105,114,101,99,116,111,114,121,32,65],[99,97,110,110,111,116,32,111,118,101,114,119,114,105,116,101,32,100,105,114,101,99,116,111,114,121,32,66,32,119,105,116,104,32,110,111,110,45,100,105,114,101,99,116,111,114,121,32,65],[99,97,110,110,111,116,32,109,111,118,101,32,65,32,116,111,32,97,32,115,117,98,100,105,114,101,99,116,111,114,121,32,111,102,32,105,116,115,101,108,102,44,32,66],[99,97,110,110,111,116,32,109,111,118,101,32,65,32,116,111,32,66,58,32,69],[45,114,32,110,111,116,32,115,112,101,99,105,102,105,101,100,59,32,111,109,105,116,116,105,110,103,32,100,105,114,101,99,116,111,114,121,32,65],[99,97,110,110,111,116,32,99,114,101,97,116,101,32,114,101,103,117,108,97,114,32,102,105,108,101,32,66,58,32,69],[99,97,110,110,111,116,32,99,114,101,97,116,101,32,115,121,109,98,111,108,105,99,32,108,105,110,107,32,66,58,32,69],[99,97,110,110,111,116,32,99,111,112,121,32,97,32,100,105,114,101,99,116,111,114,121,44,32,65,44,32,105,110,116,111,32,105,116,115,101,108,102,44,32,66],[110,111,116,32,119,114,105,116,105,110,103,32,116,104,114,111,117,103,104,32,100,97,110,103,108,105,110,103,32,115,121,109,108,105,110,107,32,66],[101,114,114,111,114,32,119,114,105,116,105,110,103,32,66,58,32,69],[99,97,110,110,111,116,32,99,114,101,97,116,101,32,100,105,114,101,99,116,111,114,121,32,66,58,32,69]]
def zqA:List (List UInt8):=[[83,117,99,99,101,115,115],[78,111,32,115,117,99,104,32,102,105,108,101,32,111,114,32,100,105,114,101,99,116,111,114,121],[70,105,108,101,32,101,120,105,115,116,115],[78,111,116,32,97,32,100,105,114,101,99,116,111,114,121],[73,115,32,97,32,100,105,114,101,99,116,111,114,121],[68,105,114,101,99,116,111,114,121,32,110,111,116,32,101,109,112,116,121],[84,111,111,32,109,97,110,121,32,108,101,118,101,108,115,32,111,102,32,115,121,109,98,111,108,105,99,32,108,105,110,107,115],[70,105,108,101,32,110,97,109,101,32,116,111,111,32,108,111,110,103],[78,111,32,115,112,97,99,101,32,108,101,102,116,32,111,110,32,100,101,118,105,99,101],[73,110,118,97,108,105,100,32,97,114,103,117,109,101,110,116],[68,101,118,105,99,101,32,111,114,32,114,101,115,111,117,114,99,101,32,98,117,115,121],[79,112,101,114,97,116,105,111,110,32,110,111,116,32,112,101,114,109,105,116,116,101,100],[77,97,108,102,111,114,109,101,100,32,116,101,120,116],[78,111,116,32,105,110,32,116,104,101,32,115,116,97,115,104]]
def znM:List Value:=[.string ⟨#[]⟩,.string ⟨#[]⟩,.int .i64 0,.string ⟨#[109,107,100,105,114]⟩,.string ⟨#[112]⟩,.int .i64 1,.string ⟨#[114,109]⟩,.string ⟨#[82,100,102,114]⟩,.int .i64 1,.string ⟨#[108,110]⟩,.string ⟨#[84,102,110,115]⟩,.int .i64 1,.string ⟨#[109,118]⟩,.string ⟨#[84,102,110]⟩,.int .i64 2,.string ⟨#[99,112]⟩,.string ⟨#[80,82,84,102,110,114]⟩,.int .i64 2]
def G2:zk:=fun g=>if g=1 then some (phr.map C.str) else if g=0 then some (znM.map zt) else if g=4 then some (zqA.map C.str) else none
theorem zn5:G2 1=some [.str [],.str [99,97,110,110,111,116,32,99,114,101,97,116,101,32,100,105,114,101,99,116,111,114,121,32,65,58,32,69],.str [99,97,110,110,111,116,32,114,101,109,111,118,101,32,65,58,32,69],.str [114,101,102,117,115,105,110,103,32,116,111,32,114,101,109,111,118,101,32,34,46,34,32,111,114,32,34,46,46,34,32,100,105,114,101,99,116,111,114,121,58,32,115,107,105,112,112,105,110,103,32,65],.str [105,116,32,105,115,32,100,97,110,103,101,114,111,117,115,32,116,111,32,111,112,101,114,97,116,101,32,114,101,99,117,114,115,105,118,101,108,121,32,111,110,32,65],.str [102,97,105,108,101,100,32,116,111,32,97,99,99,101,115,115,32,65,58,32,69],.str [65,58,32,104,97,114,100,32,108,105,110,107,32,110,111,116,32,97,108,108,111,119,101,100,32,102,111,114,32,100,105,114,101,99,116,111,114,121],.str [102,97,105,108,101,100,32,116,111,32,99,114,101,97,116,101,32,104,97,114,100,32,108,105,110,107,32,66,58,32,69],.str [102,97,105,108,101,100,32,116,111,32,99,114,101,97,116,101,32,115,121,109,98,111,108,105,99,32,108,105,110,107,32,66,58,32,69],.str [65,32,97,110,100,32,66,32,97,114,101,32,116,104,101,32,115,97,109,101,32,102,105,108,101],.str [116,97,114,103,101,116,32,65,32,105,115,32,110,111,116,32,97,32,100,105,114,101,99,116,111,114,121],.str [99,97,110,110,111,116,32,115,116,97,116,32,65,58,32,69],.str [99,97,110,110,111,116,32,111,118,101,114,119,114,105,116,101,32,110,111,110,45,100,105,114,101,99,116,111,114,121,32,66,32,119,105,116,104,32,100,105,114,101,99,116,111,114,121,32,65],.str [99,97,110,110,111,116,32,111,118,101,114,119,114,105,116,101,32,100,105,114,101,99,116,111,114,121,32,66,32,119,105,116,104,32,110,111,110,45,100,105,114,101,99,116,111,114,121,32,65],.str [99,97,110,110,111,116,32,109,111,118,101,32,65,32,116,111,32,97,32,115,117,98,100,105,114,101,99,116,111,114,121,32,111,102,32,105,116,115,101,108,102,44,32,66],.str [99,97,110,110,111,116,32,109,111,118,101,32,65,32,116,111,32,66,58,32,69],.str [45,114,32,110,111,116,32,115,112,101,99,105,102,105,101,100,59,32,111,109,105,116,116,105,110,103,32,100,105,114,101,99,116,111,114,121,32,65],.str [99,97,110,110,111,116,32,99,114,101,97,116,101,32,114,101,103,117,108,97,114,32,102,105,108,101,32,66,58,32,69],.str [99,97,110,110,111,116,32,99,114,101,97,116,101,32,115,121,109,98,111,108,105,99,32,108,105,110,107,32,66,58,32,69],.str [99,97,110,110,111,116,32,99,111,112,121,32,97,32,100,105,114,101,99,116,111,114,121,44,32,65,44,32,105,110,116,111,32,105,116,115,101,108,102,44,32,66],.str [110,111,116,32,119,114,105,116,105,110,103,32,116,104,114,111,117,103,104,32,100,97,110,103,108,105,110,103,32,115,121,109,108,105,110,107,32,66],.str [101,114,114,111,114,32,119,114,105,116,105,110,103,32,66,58,32,69],.str [99,97,110,110,111,116,32,99,114,101,97,116,101,32,100,105,114,101,99,116,111,114,121,32,66,58,32,69]]:=rfl
theorem zg7:G2 0=some [.str [],.str [],.sc (.int .i64 0),.str [109,107,100,105,114],.str [112],.sc (.int .i64 1),.str [114,109],.str [82,100,102,114],.sc (.int .i64 1),.str [108,110],.str [84,102,110,115],.sc (.int .i64 1),.str [109,118],.str [84,102,110],.sc (.int .i64 2),.str [99,112],.str [80,82,84,102,110,114],.sc (.int .i64 2)]:=rfl
theorem zlq:G2 4=some [.str [83,117,99,99,101,115,115],.str [78,111,32,115,117,99,104,32,102,105,108,101,32,111,114,32,100,105,114,101,99,116,111,114,121],.str [70,105,108,101,32,101,120,105,115,116,115],.str [78,111,116,32,97,32,100,105,114,101,99,116,111,114,121],.str [73,115,32,97,32,100,105,114,101,99,116,111,114,121],.str [68,105,114,101,99,116,111,114,121,32,110,111,116,32,101,109,112,116,121],.str [84,111,111,32,109,97,110,121,32,108,101,118,101,108,115,32,111,102,32,115,121,109,98,111,108,105,99,32,108,105,110,107,115],.str [70,105,108,101,32,110,97,109,101,32,116,111,111,32,108,111,110,103],.str [78,111,32,115,112,97,99,101,32,108,101,102,116,32,111,110,32,100,101,118,105,99,101],.str [73,110,118,97,108,105,100,32,97,114,103,117,109,101,110,116],.str [68,101,118,105,99,101,32,111,114,32,114,101,115,111,117,114,99,101,32,98,117,115,121],.str [79,112,101,114,97,116,105,111,110,32,110,111,116,32,112,101,114,109,105,116,116,101,100],.str [77,97,108,102,111,114,109,101,100,32,116,101,120,116],.str [78,111,116,32,105,110,32,116,104,101,32,115,116,97,115,104]]:=rfl
attribute [push_cast] zn5 zg7 zlq
def j0 (k:Int):List UInt8:=if k=1 then [109,107,100,105,114] else if k=2 then [114,109] else if k=3 then [108,110] else if k=4 then [109,118] else if k=5 then [99,112] else []
def qt (k:Int):List UInt8:=if k=1 then [99,97,110,110,111,116,32,99,114,101,97,116,101,32,100,105,114,101,99,116,111,114,121,32,65,58,32,69] else if k=2 then [99,97,110,110,111,116,32,114,101,109,111,118,101,32,65,58,32,69] else if k=3 then [114,101,102,117,115,105,110,103,32,116,111,32,114,101,109,111,118,101,32,34,46,34,32,111,114,32,34,46,46,34,32,100,105,114,101,99,116,111,114,121,58,32,115,107,105,112,112,105,110,103,32,65] else if k=4 then [105,116,32,105,115,32,100,97,110,103,101,114,111,117,115,32,116,111,32,111,112,101,114,97,116,101,32,114,101,99,117,114,115,105,118,101,108,121,32,111,110,32,65] else if k=5 then [102,97,105,108,101,100,32,116,111,32,97,99,99,101,115,115,32,65,58,32,69] else if k=6 then [65,58,32,104,97,114,100,32,108,105,110,107,32,110,111,116,32,97,108,108,111,119,101,100,32,102,111,114,32,100,105,114,101,99,116,111,114,121] else if k=7 then [102,97,105,108,101,100,32,116,111,32,99,114,101,97,116,101,32,104,97,114,100,32,108,105,110,107,32,66,58,32,69] else if k=8 then [102,97,105,108,101,100,32,116,111,32,99,114,101,97,116,101,32,115,121,109,98,111,108,105,99,32,108,105,110,107,32,66,58,32,69] else if k=9 then [65,32,97,110,100,32,66,32,97,114,101,32,116,104,101,32,115,97,109,101,32,102,105,108,101] else if k=10 then [116,97,114,103,101,116,32,65,32,105,115,32,110,111,116,32,97,32,100,105,114,101,99,116,111,114,121] else if k=11 then [99,97,110,110,111,116,32,115,116,97,116,32,65,58,32,69] else if k=12 then [99,97,110,110,111,116,32,111,118,101,114,119,114,105,116,101,32,110,111,110,45,100,105,114,101,99,116,111,114,121,32,66,32,119,105,116,104,32,100,105,114,101,99,116,111,114,121,32,65] else if k=13 then [99,97,110,110,111,116,32,111,118,101,114,119,114,105,116,101,32,100,105,114,101,99,116,111,114,121,32,66,32,119,105,116,104,32,110,111,110,45,100,105,114,101,99,116,111,114,121,32,65] else if k=14 then [99,97,110,110,111,116,32,109,111,118,101,32,65,32,116,111,32,97,32,115,117,98,100,105,114,101,99,116,111,114,121,32,111,102,32,105,116,115,101,108,102,44,32,66] else if k=15 then [99,97,110,110,111,116,32,109,111,118,101,32,65,32,116,111,32,66,58,32,69] else if k=16 then [45,114,32,110,111,116,32,115,112,101,99,105,102,105,101,100,59,32,111,109,105,116,116,105,110,103,32,100,105,114,101,99,116,111,114,121,32,65] else if k=17 then [99,97,110,110,111,116,32,99,114,101,97,116,101,32,114,101,103,117,108,97,114,32,102,105,108,101,32,66,58,32,69] else if k=18 then [99,97,110,110,111,116,32,99,114,101,97,116,101,32,115,121,109,98,111,108,105,99,32,108,105,110,107,32,66,58,32,69] else if k=19 then [99,97,110,110,111,116,32,99,111,112,121,32,97,32,100,105,114,101,99,116,111,114,121,44,32,65,44,32,105,110,116,111,32,105,116,115,101,108,102,44,32,66] else if k=20 then [110,111,116,32,119,114,105,116,105,110,103,32,116,104,114,111,117,103,104,32,100,97,110,103,108,105,110,103,32,115,121,109,108,105,110,107,32,66] else if k=21 then [101,114,114,111,114,32,119,114,105,116,105,110,103,32,66,58,32,69] else if k=22 then [99,97,110,110,111,116,32,99,114,101,97,116,101,32,100,105,114,101,99,116,111,114,121,32,66,58,32,69] else []
def MF (k:Int):List UInt8:=if k=0 then [83,117,99,99,101,115,115] else if k=1 then [78,111,32,115,117,99,104,32,102,105,108,101,32,111,114,32,100,105,114,101,99,116,111,114,121] else if k=2 then [70,105,108,101,32,101,120,105,115,116,115] else if k=3 then [78,111,116,32,97,32,100,105,114,101,99,116,111,114,121] else if k=4 then [73,115,32,97,32,100,105,114,101,99,116,111,114,121] else if k=5 then [68,105,114,101,99,116,111,114,121,32,110,111,116,32,101,109,112,116,121] else if k=6 then [84,111,111,32,109,97,110,121,32,108,101,118,101,108,115,32,111,102,32,115,121,109,98,111,108,105,99,32,108,105,110,107,115] else if k=7 then [70,105,108,101,32,110,97,109,101,32,116,111,111,32,108,111,110,103] else if k=8 then [78,111,32,115,112,97,99,101,32,108,101,102,116,32,111,110,32,100,101,118,105,99,101] else if k=9 then [73,110,118,97,108,105,100,32,97,114,103,117,109,101,110,116] else if k=10 then [68,101,118,105,99,101,32,111,114,32,114,101,115,111,117,114,99,101,32,98,117,115,121] else if k=11 then [79,112,101,114,97,116,105,111,110,32,110,111,116,32,112,101,114,109,105,116,116,101,100] else if k=12 then [77,97,108,102,111,114,109,101,100,32,116,101,120,116] else if k=13 then [78,111,116,32,105,110,32,116,104,101,32,115,116,97,115,104] else [85,110,107,110,111,119,110,32,101,114,114,111,114]
theorem GW (k:Int):Fun Tryz.prog G2 125 [.sc (.int .i64 k)] (.str (j0 k)) 0:=by
 by_cases h1:1<=k
 ·by_cases h2:k<=5
  ·have hc:k=1∨k=2∨k=3∨k=4∨k=5:=by omega
   clear h1 h2
   rcases hc with rfl | rfl | rfl | rfl | rfl
   all_goals
    refine fon Tryz.func125 ?_;dsimp only[Tryz.f125]
    push_cast -dsimp
    exact ⟨[],rfl,rfl,by simp only[j0];push_cast -dsimp [zb,za,CLe,ze]<;>rfl⟩
  ·have n1:¬k=1:=(by omega);have n2:¬k=2:=(by omega);have n3:¬k=3:=(by omega);have n4:¬k=4:=(by omega);have n5:¬k=5:=(by omega)
   have f1:¬k<1:=(by omega);have f2:6<=k:=(by omega);have f3:5<k:=(by omega)
   refine fon Tryz.func125 ?_;dsimp only[Tryz.f125]
   push_cast -dsimp [f1,f2,f3,n1,n2,n3,n4,n5]
   exact ⟨[],rfl,rfl,by push_cast -dsimp [zb,za,CLe,ze]<;>simp[j0,n1,n2,n3,n4,n5]⟩
 ·have n1:¬k=1:=(by omega);have n2:¬k=2:=(by omega);have n3:¬k=3:=(by omega);have n4:¬k=4:=(by omega);have n5:¬k=5:=(by omega)
  have f1:k<1:=by omega
  refine fon Tryz.func125 ?_;dsimp only[Tryz.f125]
  push_cast -dsimp [f1,n1,n2,n3,n4,n5]
  exact ⟨[],rfl,rfl,by push_cast -dsimp [zb,za,CLe,ze]<;>simp[j0,n1,n2,n3,n4,n5]⟩
theorem GZ (k:Int):Fun Tryz.prog G0 32 [.sc (.int .i64 k)] (.str (j0 k)) 0:=by
 by_cases h1:1<=k
 ·by_cases h2:k<=5
  ·have hc:k=1∨k=2∨k=3∨k=4∨k=5:=by omega
   clear h1 h2
   rcases hc with rfl | rfl | rfl | rfl | rfl
   all_goals
    refine fon Tryz.func32 ?_;dsimp only[Tryz.f32]
    push_cast -dsimp
    exact ⟨[],rfl,rfl,by simp only[j0];push_cast -dsimp [zb,za,CLe,ze]<;>rfl⟩
  ·have n1:¬k=1:=(by omega);have n2:¬k=2:=(by omega);have n3:¬k=3:=(by omega);have n4:¬k=4:=(by omega);have n5:¬k=5:=(by omega)
   have f1:¬k<1:=(by omega);have f2:6<=k:=(by omega);have f3:5<k:=(by omega)
   refine fon Tryz.func32 ?_;dsimp only[Tryz.f32]
   push_cast -dsimp [f1,f2,f3,n1,n2,n3,n4,n5]
   exact ⟨[],rfl,rfl,by push_cast -dsimp [zb,za,CLe,ze]<;>simp[j0,n1,n2,n3,n4,n5]⟩
 ·have n1:¬k=1:=(by omega);have n2:¬k=2:=(by omega);have n3:¬k=3:=(by omega);have n4:¬k=4:=(by omega);have n5:¬k=5:=(by omega)
  have f1:k<1:=by omega
  refine fon Tryz.func32 ?_;dsimp only[Tryz.f32]
  push_cast -dsimp [f1,n1,n2,n3,n4,n5]
  exact ⟨[],rfl,rfl,by push_cast -dsimp [zb,za,CLe,ze]<;>simp[j0,n1,n2,n3,n4,n5]⟩
theorem zaz (k:Int):Fun Tryz.prog G2 126 [.sc (.int .i64 k)] (.str (qt k)) 0:=by
 by_cases h1:0<=k
 ·by_cases h2:k<=22
  ·have hc:k=0∨k=1∨k=2∨k=3∨k=4∨k=5∨k=6∨k=7∨k=8∨k=9∨k=10∨k=11∨k=12∨k=13∨k=14∨k=15∨k=16∨k=17∨k=18∨k=19∨k=20∨k=21∨k=22:=by omega
   clear h1 h2
   rcases hc with rfl | rfl | rfl | rfl | rfl | rfl | rfl | rfl | rfl | rfl | rfl | rfl | rfl | rfl | rfl | rfl | rfl | rfl | rfl | rfl | rfl | rfl | rfl
   all_goals
    refine fon Tryz.func126 ?_;dsimp only[Tryz.f126]
    push_cast -dsimp
    exact ⟨[],rfl,rfl,by simp only[qt];push_cast -dsimp [zb,za,CLe,ze]<;>rfl⟩
  ·have n1:¬k=1:=(by omega);have n2:¬k=2:=(by omega);have n3:¬k=3:=(by omega);have n4:¬k=4:=(by omega);have n5:¬k=5:=(by omega);have n6:¬k=6:=(by omega);have n7:¬k=7:=(by omega);have n8:¬k=8:=(by omega);have n9:¬k=9:=(by omega);have n10:¬k=10:=(by omega);have n11:¬k=11:=(by omega);have n12:¬k=12:=(by omega);have n13:¬k=13:=(by omega);have n14:¬k=14:=(by omega);have n15:¬k=15:=(by omega);have n16:¬k=16:=(by omega);have n17:¬k=17:=(by omega);have n18:¬k=18:=(by omega);have n19:¬k=19:=(by omega);have n20:¬k=20:=(by omega);have n21:¬k=21:=(by omega);have n22:¬k=22:=(by omega)
   have f1:¬k<0:=(by omega);have f2:23<=k:=(by omega);have f3:22<k:=(by omega)
   refine fon Tryz.func126 ?_;dsimp only[Tryz.f126]
   push_cast -dsimp [f1,f2,f3,n1,n2,n3,n4,n5,n6,n7,n8,n9,n10,n11,n12,n13,n14,n15,n16,n17,n18,n19,n20,n21,n22]
   exact ⟨[],rfl,rfl,by push_cast -dsimp [zb,za,CLe,ze]<;>simp[qt,n1,n2,n3,n4,n5,n6,n7,n8,n9,n10,n11,n12,n13,n14,n15,n16,n17,n18,n19,n20,n21,n22]⟩
 ·have n1:¬k=1:=(by omega);have n2:¬k=2:=(by omega);have n3:¬k=3:=(by omega);have n4:¬k=4:=(by omega);have n5:¬k=5:=(by omega);have n6:¬k=6:=(by omega);have n7:¬k=7:=(by omega);have n8:¬k=8:=(by omega);have n9:¬k=9:=(by omega);have n10:¬k=10:=(by omega);have n11:¬k=11:=(by omega);have n12:¬k=12:=(by omega);have n13:¬k=13:=(by omega);have n14:¬k=14:=(by omega);have n15:¬k=15:=(by omega);have n16:¬k=16:=(by omega);have n17:¬k=17:=(by omega);have n18:¬k=18:=(by omega);have n19:¬k=19:=(by omega);have n20:¬k=20:=(by omega);have n21:¬k=21:=(by omega);have n22:¬k=22:=(by omega)
  have f1:k<0:=by omega
  refine fon Tryz.func126 ?_;dsimp only[Tryz.f126]
  push_cast -dsimp [f1,n1,n2,n3,n4,n5,n6,n7,n8,n9,n10,n11,n12,n13,n14,n15,n16,n17,n18,n19,n20,n21,n22]
  exact ⟨[],rfl,rfl,by push_cast -dsimp [zb,za,CLe,ze]<;>simp[qt,n1,n2,n3,n4,n5,n6,n7,n8,n9,n10,n11,n12,n13,n14,n15,n16,n17,n18,n19,n20,n21,n22]⟩
theorem yj (k:Int):Fun Tryz.prog G2 172 [.sc (.int .i64 k)] (.str (MF k)) 0:=by
 by_cases h1:0<=k
 ·by_cases h2:k<=13
  ·have hc:k=0∨k=1∨k=2∨k=3∨k=4∨k=5∨k=6∨k=7∨k=8∨k=9∨k=10∨k=11∨k=12∨k=13:=by omega
   clear h1 h2
   rcases hc with rfl | rfl | rfl | rfl | rfl | rfl | rfl | rfl | rfl | rfl | rfl | rfl | rfl | rfl
   all_goals
    refine fon Tryz.func172 ?_;dsimp only[Tryz.f172]
    push_cast -dsimp
    exact ⟨[],rfl,rfl,by simp only[MF];push_cast -dsimp [zb,za,CLe,ze]<;>rfl⟩
  ·have n0:¬k=0:=(by omega);have n1:¬k=1:=(by omega);have n2:¬k=2:=(by omega);have n3:¬k=3:=(by omega);have n4:¬k=4:=(by omega);have n5:¬k=5:=(by omega);have n6:¬k=6:=(by omega);have n7:¬k=7:=(by omega);have n8:¬k=8:=(by omega);have n9:¬k=9:=(by omega);have n10:¬k=10:=(by omega);have n11:¬k=11:=(by omega);have n12:¬k=12:=(by omega);have n13:¬k=13:=(by omega)
   have f1:¬k<0:=(by omega);have f2:14<=k:=(by omega);have f3:13<k:=(by omega)
   refine fon Tryz.func172 ?_;dsimp only[Tryz.f172]
   push_cast -dsimp [f1,f2,f3,n0,n1,n2,n3,n4,n5,n6,n7,n8,n9,n10,n11,n12,n13]
   exact ⟨[],rfl,rfl,by push_cast -dsimp [zb,za,CLe,ze]<;>simp[MF,n0,n1,n2,n3,n4,n5,n6,n7,n8,n9,n10,n11,n12,n13]⟩
 ·have n0:¬k=0:=(by omega);have n1:¬k=1:=(by omega);have n2:¬k=2:=(by omega);have n3:¬k=3:=(by omega);have n4:¬k=4:=(by omega);have n5:¬k=5:=(by omega);have n6:¬k=6:=(by omega);have n7:¬k=7:=(by omega);have n8:¬k=8:=(by omega);have n9:¬k=9:=(by omega);have n10:¬k=10:=(by omega);have n11:¬k=11:=(by omega);have n12:¬k=12:=(by omega);have n13:¬k=13:=(by omega)
  have f1:k<0:=by omega
  refine fon Tryz.func172 ?_;dsimp only[Tryz.f172]
  push_cast -dsimp [f1,n0,n1,n2,n3,n4,n5,n6,n7,n8,n9,n10,n11,n12,n13]
  exact ⟨[],rfl,rfl,by push_cast -dsimp [zb,za,CLe,ze]<;>simp[MF,n0,n1,n2,n3,n4,n5,n6,n7,n8,n9,n10,n11,n12,n13]⟩
open QuotePlain in
theorem Nb (l:List UInt8) (hl:l.length<=1000000):Fun Tryz.prog G0 171 [.str l] (.str (z6 l)) 0:=by
 refine Fun.wrap (by kernel_rfl) fun R vs h=>?_
 obtain ⟨v1,us1,rfl,h1,h⟩:=zd.1 h
 rw[zg]at h
 subst h
 rw[zC]at h1
 subst h1
 refine (QuoteWalk.quote_walk ⟨l.toArray⟩ R.w (by simp[ByteArray.size];omega)).mono ?_
 rintro e w' ⟨rfl,hb⟩
 exact ⟨_,rfl,hb,fun R' _=>zC.2 (by simp[Kit.ofL,Kit.toL])⟩
open QuotePlain in
theorem XG (l:List UInt8) (hl:l.length<=1000000):Fun Tryz.prog G0 67 [.str l] (.str (z6 l)) 0:=by
 refine Fun.wrap (by kernel_rfl) fun R vs h=>?_
 obtain ⟨v1,us1,rfl,h1,h⟩:=zd.1 h
 rw[zg]at h
 subst h
 rw[zC]at h1
 subst h1
 refine (QuoteWalk.refQuote_walk ⟨l.toArray⟩ R.w (by simp[ByteArray.size];omega)).mono ?_
 rintro e w' ⟨rfl,hb⟩
 exact ⟨_,rfl,hb,fun R' _=>zC.2 (by simp[Kit.ofL,Kit.toL])⟩
end
section
open Go.RowKit
theorem Fun.res {P:Program} {G:zk} {f:FuncId} {args:List C} {r r':C} {n:Nat} (h:Fun P G f args r n) (e:r=r'):Fun P G f args r' n:=e▸h
theorem zaW.glob0 {P:Program} {G':zk} {f:FuncId} {args:List C} {bx bx':List (List C)} {q:Nat} {r:C} {n:Nat} (h:zaW P G0 f args bx q r bx' n):zaW P G' f args bx q r bx' n:=
 ⟨h.1,fun R L vs hg=>h.2 R L vs fun g cs e=>by cases e⟩
theorem Mc.glob0 {P:Program} {G':zk} {f:FuncId} {first cap:List C} {bx items:List (List C)} (h:Mc P G0 f first cap bx items):Mc P G' f first cap bx items:=
 ⟨h.1,fun l st J R L us vs hg=>h.2 l st J R L us vs fun g cs e=>by cases e⟩
def X9 (c:UInt8):List UInt8->List (List UInt8)
 | []=>[[]]
 | b :: l=>if b=c then [] :: X9 c l else match X9 c l with
  | []=>[[b]]
  | x :: r=>(b :: x) :: r
theorem VC (c:UInt8):∀ l:List UInt8,Lib.indexByte l c<0->X9 c l = [l]
 | [],_=>rfl
 | b :: l,h=>by
  unfold Lib.indexByte at h
  by_cases hb:b=c
  ·subst hb;simp at h
  ·have hb':(b==c)=false:=by simpa using hb
   rw[hb']at h
   simp only[Bool.false_eq_true,if_false]at h
   have hl:Lib.indexByte l c<0:=by
    split at h
    ·rename_i g;have:=beq_iff_eq.1 g;omega
    ·omega
   unfold X9
   rw[if_neg hb,VC c l hl]
theorem Up (c:UInt8):∀ l:List UInt8,-1<=Lib.indexByte l c
 | []=>Int.le_refl _
 | b :: l=>by
  have:=Up c l
  unfold Lib.indexByte
  split
  ·decide
  ·split
   ·decide
   ·omega
theorem Mb (c:UInt8):∀ (l:List UInt8) (i:Nat),Lib.indexByte l c=(i:Int)->i<l.length/\X9 c l=l.take i :: X9 c (l.drop (i+1))
 | [],i,h=>by
  have h:(-1:Int)=(i:Int):=h
  omega
 | b :: l,i,h=>by
  unfold Lib.indexByte at h
  by_cases hb:b=c
  ·subst hb
   simp at h
   obtain rfl:i=0:=by omega
   refine ⟨by simp,?_⟩
   conv=>lhs;unfold X9
   simp
  ·have hb':(b==c)=false:=by simpa using hb
   rw[hb']at h
   simp only[Bool.false_eq_true,if_false]at h
   split at h
   ·omega
   ·rename_i g
    have g':Lib.indexByte l c≠-1:=by simpa using g
    have hg:=Up c l
    obtain ⟨j,rfl⟩:∃ j,i=j+1:=⟨i-1,by omega⟩
    have hj:Lib.indexByte l c=(j:Int):=by omega
    obtain ⟨h1,h2⟩:=Mb c l j hj
    refine ⟨by simp;omega,?_⟩
    conv=>lhs;unfold X9
    rw[if_neg hb,h2]
    simp
theorem MM (c:UInt8) (l:List UInt8):(X9 c l).length<=l.length+1:=by
 induction l with
 | nil=>simp[X9]
 | cons b l ih =>
  unfold X9
  split
  ·simp;omega
  ·split
   ·simp
   ·rename_i x r h
    rw[h]at ih
    simp at ih ⊢;omega
theorem zaT (c:UInt8) (l:List UInt8):Fun Tryz.prog G0 177 [.str l,.str [c]] (.sc (.int .i64 (Lib.indexByte l c))) 0:=by
 refine Fun.wrap (by kernel_rfl) fun R vs h=>?_
 obtain ⟨v1,us1,rfl,h1,h⟩:=zd.1 h
 obtain ⟨v2,us2,rfl,h2,h⟩:=zd.1 h
 rw[zg]at h
 subst h
 rw[zC]at h1 h2
 subst h1 h2
 refine (Tryz.strings_Index_one ⟨l.toArray⟩ c R.w).mono ?_
 rintro e w' ⟨rfl,rfl⟩
 exact ⟨_,rfl,Below.refl _ _,fun R' _=>zj.2 (by simp)⟩
theorem GR (c:UInt8) (s:List UInt8) (hs:s.length<=1000000):Mc Tryz.prog G0 208 [] [.ptr 1 0,.ptr 0 0,.ptr 2 0] [[.str s],[.str [c]],[.sc (.int .i64 0)]] (zB (X9 c s)):=by
 refine foI (fun _=>[]) Tryz.func208 ?_;dsimp only[Tryz.f208]
 intro l sf
 push_cast -dsimp
 refine loop (fun x:List UInt8×Nat=>⟨[(0,.sc (.func (.yield l) #[] #[])),(1,.ptr 1 0),(2,.ptr 0 0),(3,.ptr 2 0)],[[.str x.1],[.str [c]],[.sc (.int .i64 0)]],0,x.2⟩)
  (fun x=>x.1.length<=1000000/\(∃ done,X9 c s=done++X9 c x.1/\done.length=x.2)/\∀ j,j<x.2->sf j=false) (fun x=>x.1.length) (s,0) ⟨hs,⟨[],rfl,rfl⟩,fun j hj=>by omega⟩ ?_ ?_
 ·refine j9.mk [] rfl rfl (Nat.zero_le _) rfl ?_ ?_<;>push_cast -dsimp [zb,za,CLe,ze]<;>omega
 ·rintro ⟨r,k⟩ hx
  simp only at hx ⊢
  have hr:=hx.1
  have hsf:=hx.2.2
  obtain ⟨done,hd,hdl⟩:=hx.2.1
  clear hx
  push_cast -dsimp
  refine call (zaT c r) ?_
  push_cast -dsimp
  by_cases hi:Lib.indexByte r c<0
  ·push_cast -dsimp [hi]
   have hk:(zB (X9 c s))[k]?=some [.str r]:=by
    rw[hd,VC c r hi];simp[←hdl]
   rw[hk]
   push_cast -dsimp
   refine ⟨by push_cast -dsimp [zb,za,CLe,ze],hsf,?_⟩
   cases hk2:sf k with
   | true=>exact .inr ⟨Nat.succ_pos k,hk2⟩
   | false =>
    refine .inl ⟨?_,fun j (hj:j<k+1)=>?_⟩
    ·rw[hd,VC c r hi];simp[hdl]
    ·rcases Nat.lt_or_ge j k with g | g
     ·exact hsf j g
     ·rw[show j=k by omega];exact hk2
  ·have hg:=Up c r
   obtain ⟨i,hii⟩:∃ i:Nat,Lib.indexByte r c=(i:Int):=⟨(Lib.indexByte r c).toNat,by omega⟩
   obtain ⟨hir,hsp⟩:=Mb c r i hii
   have hk:(zB (X9 c s))[k]?=some [.str (r.take i)]:=by
    rw[hd,hsp];simp[←hdl]
   rw[hii]at hi ⊢
   push_cast -dsimp [hi]
   rw[hk]
   push_cast -dsimp
   refine ⟨by omega,by omega,by push_cast -dsimp [zb,za,CLe,ze],hsf,br (fun hk2=>?_) (fun hk2=>?_)⟩
   ·push_cast -dsimp
    exact .inr ⟨Nat.succ_pos k,hk2⟩
   ·push_cast -dsimp
    refine ⟨by omega,by omega,(r.drop (i+1),k+1),⟨by simp;omega,⟨done++[r.take i],by rw[hd,hsp];simp,by simp[hdl]⟩,fun j (hj:j<k+1)=>?_⟩,by simp;omega,j9.mk [] rfl rfl (Nat.zero_le _) rfl ?_ ?_⟩
    ·rcases Nat.lt_or_ge j k with g | g
     ·exact hsf j g
     ·rw[show j=k by omega];exact hk2
    ·push_cast -dsimp [zb,za,CLe,ze]
    ·push_cast -dsimp [zb,za,CLe,ze]
theorem Gb (c:UInt8) (s:List UInt8):zaW Tryz.prog G0 169 [.str s,.str [c],.sc (.int .i64 0)] [] 0 (.clo (.func 208) [] [.ptr 1 0,.ptr 0 0,.ptr 2 0]) [[.str s],[.str [c]],[.sc (.int .i64 0)]] 0:=by
 refine foB (fun _=>[]) Tryz.func169 ?_;dsimp only[Tryz.f169]
 push_cast -dsimp
 exact ⟨[],rfl,rfl,by push_cast -dsimp [zb,za,CLe,ze],by push_cast -dsimp [zb,za,CLe,ze]⟩
theorem Hf (c:UInt8) (s:List UInt8):zaW Tryz.prog G0 127 [.str s,.str [c]] [] 0 (.clo (.func 208) [] [.ptr 1 0,.ptr 0 0,.ptr 2 0]) [[.str s],[.str [c]],[.sc (.int .i64 0)]] 0:=by
 refine foB (fun _=>[]) Tryz.func127 ?_;dsimp only[Tryz.f127]
 push_cast -dsimp
 refine zhc [] [] (Gb c s) rfl (by simp) (by simp) (fun i hi=>by cases hi) (by push_cast -dsimp) rfl ?_
 push_cast -dsimp
 exact ⟨[],rfl,rfl,by push_cast -dsimp [zb,za,CLe,ze],by push_cast -dsimp [zb,za,CLe,ze]⟩
end
section
open CA CB
open Go.RowKit QuotePlain
def Yx (l:List UInt8):List UInt8:=Lib.trimRightS l [58,44]
theorem zfe (l:List UInt8):(Yx l).length<=l.length:=by
 unfold Yx Lib.trimRightS
 rw[List.length_reverse]
 have:=(List.dropWhile_sublist (([58,44]:List UInt8).contains ·) (l:=l.reverse)).length_le
 rw[List.length_reverse]at this
 exact this
theorem zhY (l:List UInt8) (h0:l≠[]) (hl:l.length<=1000000):Fun Tryz.prog G0 170 [.str l,.str [58,44]] (.str (Yx l)) 0:=by
 refine Fun.wrap (by kernel_rfl) fun R vs h=>?_
 obtain ⟨v1,us1,rfl,h1,h⟩:=zd.1 h
 obtain ⟨v2,us2,rfl,h2,h⟩:=zd.1 h
 rw[zg]at h
 subst h
 rw[zC]at h1 h2
 subst h1 h2
 have hpos:=List.length_pos_iff.2 h0
 refine (Any.strings_TrimRight_set Tryz.lays162 UY (by kernel_rfl) ⟨l.toArray⟩ ⟨#[58,44]⟩ R.w (by decide) (by simpa [ByteArray.size] using hpos) (by simp[ByteArray.size];omega) (by decide) (fun j b hb=>?_)).mono ?_
 ·match j,hb with
  | 0,hb=>cases hb;decide
  | 1,hb=>cases hb;decide
  | j+2,hb=>simp at hb
 ·rintro e w' ⟨rfl,rfl⟩
  exact ⟨_,rfl,((Below.refl _ _).alloc (Nat.le_refl _) _).alloc (by simp) _,fun R' _=>zC.2 (by simp[Yx])⟩
def Qr (w qa qb m:List UInt8):List UInt8:=
 if Yx w = [65] then qa++w.drop (Yx w).length else if Yx w = [66] then qb++w.drop (Yx w).length else if Yx w = [69] then m++w.drop (Yx w).length else w
theorem XA (l:List UInt8):(z6 l).length<=4*l.length+2:=by
 have:=QuoteWalk.mid_len l
 simp only[z6,List.length_cons,List.length_append,List.length_nil]
 omega
theorem vg (e:Int):(MF e).length<=100:=by
 have key:∀ (c:Prop) [Decidable c] (x y:List UInt8),x.length<=100->y.length<=100->(if c then x else y).length<=100:=fun c _ x y hx hy=>by
  by_cases h:c
  ·rw[if_pos h];exact hx
  ·rw[if_neg h];exact hy
 unfold MF
 repeat' (first | decide | refine key _ _ _ (by decide) ?_)
theorem zd1 (w a b:List UInt8) (e:Int) (ha:a.length<=1000) (hb:b.length<=1000):(Qr w (z6 a) (z6 b) (MF e)).length<=w.length+5000:=by
 have h1:=XA a
 have h2:=XA b
 have h3:=vg e
 unfold Qr
 repeat' split
 all_goals (try simp only[List.length_append,List.length_drop]);omega
theorem zgO (w a b:List UInt8) (e:Int) (h0:w≠[]) (hw:w.length<=1000) (ha:a.length<=1000) (hb:b.length<=1000):Fun Tryz.prog G2 128 [.str w,.str a,.str b,.sc (.int .i64 e)] (.str (Qr w (z6 a) (z6 b) (MF e))) 0:=by
 have h1:=(zhY w h0 (by omega)).glob0 (G':=G2)
 have h2:=(Nb a (by omega)).glob0 (G':=G2)
 have h3:=(Nb b (by omega)).glob0 (G':=G2)
 have h4:=yj e
 have hl:=zfe w
 have l1:=XA a
 have l2:=XA b
 have l3:=vg e
 by_cases hA:Yx w = [65]
 ·refine fon Tryz.func128 ?_;dsimp only[Tryz.f128]
  push_cast -dsimp
  refine cl (h1) ?_;push_cast -dsimp
  repeat refine an ?_
  push_cast -dsimp [hA]
  refine cl (h2) ?_;push_cast -dsimp
  repeat refine an ?_
  exact ⟨[],rfl,rfl,by push_cast -dsimp [zb,za,CLe,ze]<;>simp[Qr,hA]⟩
 ·by_cases hB:Yx w = [66]
  ·have hA':¬([66]:List UInt8) = [65]:=by decide
   refine fon Tryz.func128 ?_;dsimp only[Tryz.f128]
   push_cast -dsimp
   refine cl (h1) ?_;push_cast -dsimp
   repeat refine an ?_
   push_cast -dsimp [hB,hA']
   refine cl (h3) ?_;push_cast -dsimp
   repeat refine an ?_
   exact ⟨[],rfl,rfl,by push_cast -dsimp [zb,za,CLe,ze]<;>simp[Qr,hB]⟩
  ·by_cases hE:Yx w = [69]
   ·have hA':¬([69]:List UInt8) = [65]:=by decide
    have hB':¬([69]:List UInt8) = [66]:=by decide
    refine fon Tryz.func128 ?_;dsimp only[Tryz.f128]
    push_cast -dsimp
    refine cl (h1) ?_;push_cast -dsimp
    repeat refine an ?_
    push_cast -dsimp [hE,hA',hB']
    refine cl (h4) ?_;push_cast -dsimp
    repeat refine an ?_
    exact ⟨[],rfl,rfl,by push_cast -dsimp [zb,za,CLe,ze]<;>simp[Qr,hE]⟩
   ·refine fon Tryz.func128 ?_;dsimp only[Tryz.f128]
    push_cast -dsimp
    refine cl (h1) ?_;push_cast -dsimp
    repeat refine an ?_
    push_cast -dsimp [hA,hB,hE]
    exact ⟨[],rfl,rfl,by push_cast -dsimp [zb,za,CLe,ze]<;>simp[Qr,hA,hB,hE]⟩
theorem zhH (xs:List (List UInt8)) (hx:xs.length<=1000001) (hl:(Lib.join xs [58,32]).length<=100000000):Fun Tryz.prog G0 129 [.sl 1 (zB xs)] (.str (Lib.join xs [58,32])) 0:=by
 refine fon Tryz.func129 ?_;dsimp only[Tryz.f129]
 push_cast -dsimp
 refine cl (Vd xs [58,32] hx hl) ?_;push_cast -dsimp
 exact dn
end
section
open CA CB
open Go.RowKit QuotePlain
abbrev Atm:=Nat ⊕ UInt8
def zqa (w:List UInt8):List Atm:=
 if Yx w = [65] then .inl 0 :: (w.drop (Yx w).length).map .inr else if Yx w = [66] then .inl 1 :: (w.drop (Yx w).length).map .inr else if Yx w = [69] then .inl 2 :: (w.drop (Yx w).length).map .inr else w.map .inr
def vA (qa qb m:List UInt8):Atm->List UInt8
 | .inl 0=>qa
 | .inl 1=>qb
 | .inl _=>m
 | .inr b=>[b]
def flA (qa qb m:List UInt8):List Atm->List UInt8
 | []=>[]
 | [a]=>vA qa qb m a
 | a :: b :: r=>vA qa qb m a++flA qa qb m (b :: r)
theorem Yt (qa qb m:List UInt8):∀ l:List Atm,flA qa qb m l=l.flatMap (vA qa qb m)
 | []=>rfl
 | [a]=>by simp[flA]
 | a :: b :: r=>by rw[flA,Yt qa qb m (b :: r)];rfl
def zds (k:Int):List Atm:=List.intercalate [.inr 32] ((X9 32 (qt k)).map zqa)
def zo9 (k:Int) (qa qb m:List UInt8):List UInt8:=flA qa qb m (zds k)
theorem zgi (qa qb m l:List UInt8):flA qa qb m (l.map .inr)=l:=by
 rw[Yt]
 induction l with
 | nil=>rfl
 | cons b r ih=>exact congrArg (b :: ·) ih
theorem H3 (qa qb m:List UInt8) (a:Atm) (l:List Atm):flA qa qb m (a :: l)=vA qa qb m a++flA qa qb m l:=by rw[Yt,Yt];rfl
theorem ziL (w qa qb m:List UInt8):Qr w qa qb m=flA qa qb m (zqa w):=by
 have h:=fun l=>zgi qa qb m l
 unfold Qr zqa
 split
 ·rw[H3,h];rfl
 ·split
  ·rw[H3,h];rfl
  ·split
   ·rw[H3,h];rfl
   ·rw[h]
theorem zcH (qa qb m:List UInt8) (a b:List Atm):flA qa qb m (a++b)=flA qa qb m a++flA qa qb m b:=by rw[Yt,Yt,Yt];exact List.flatMap_append
theorem vt (qa qb m:List UInt8):∀ ws:List (List Atm),flA qa qb m (List.intercalate [.inr 32] ws)=List.intercalate [32] (ws.map (flA qa qb m))
 | []=>rfl
 | [w]=>by simp[List.intercalate,List.intersperse]
 | w :: v :: r=>by
  have ih:=vt qa qb m (v :: r)
  have e1:List.intercalate [(.inr 32:Atm)] (w :: v :: r)=w++([.inr 32]++List.intercalate [.inr 32] (v :: r)):=by simp[List.intercalate,List.intersperse]
  have e2:List.intercalate [(32:UInt8)] ((w :: v :: r).map (flA qa qb m))=flA qa qb m w++([32]++List.intercalate [32] ((v :: r).map (flA qa qb m))):=by simp[List.intercalate,List.intersperse]
  rw[e1,e2,zcH,zcH,ih]
  rfl
theorem zfL (k:Int) (qa qb m:List UInt8):Lib.join ((X9 32 (qt k)).map fun w=>Qr w qa qb m) [32]=zo9 k qa qb m:=by
 unfold zo9 zds
 rw[vt,List.map_map]
 show List.intercalate [32] _=_
 congr 1
 exact List.map_congr_left fun w _=>ziL w qa qb m
theorem xa (k:Int) (h:¬(1<=k/\k<=22)):qt k = []:=by
 have n1:¬k=1:=by omega
 have n2:¬k=2:=by omega
 have n3:¬k=3:=by omega
 have n4:¬k=4:=by omega
 have n5:¬k=5:=by omega
 have n6:¬k=6:=by omega
 have n7:¬k=7:=by omega
 have n8:¬k=8:=by omega
 have n9:¬k=9:=by omega
 have n10:¬k=10:=by omega
 have n11:¬k=11:=by omega
 have n12:¬k=12:=by omega
 have n13:¬k=13:=by omega
 have n14:¬k=14:=by omega
 have n15:¬k=15:=by omega
 have n16:¬k=16:=by omega
 have n17:¬k=17:=by omega
 have n18:¬k=18:=by omega
 have n19:¬k=19:=by omega
 have n20:¬k=20:=by omega
 have n21:¬k=21:=by omega
 have n22:¬k=22:=by omega
 simp only[qt,n1,n2,n3,n4,n5,n6,n7,n8,n9,n10,n11,n12,n13,n14,n15,n16,n17,n18,n19,n20,n21,n22,if_false]
theorem N1 (k:Int):qt k = []∨((∀ x∈X9 32 (qt k),x≠[]/\x.length<=100)/\(qt k).length<=100):=by
 by_cases h:1<=k/\k<=22
 ·refine .inr ?_
  have hc:k=1∨k=2∨k=3∨k=4∨k=5∨k=6∨k=7∨k=8∨k=9∨k=10∨k=11∨k=12∨k=13∨k=14∨k=15∨k=16∨k=17∨k=18∨k=19∨k=20∨k=21∨k=22:=by omega
  clear h
  rcases hc with rfl | rfl | rfl | rfl | rfl | rfl | rfl | rfl | rfl | rfl | rfl | rfl | rfl | rfl | rfl | rfl | rfl | rfl | rfl | rfl | rfl | rfl<;>exact ⟨by decide +kernel,by decide +kernel⟩
 ·exact .inl (xa k h)
theorem NM (f:List UInt8->List UInt8) (n:Nat):∀ xs:List (List UInt8),(∀ x∈xs,(f x).length<=n)->((xs.map f).map fun x=>x.length+1).sum<=xs.length*(n+1)
 | [],_=>by simp
 | x :: r,h=>by
  have ih:=NM f n r fun y hy=>h y (List.mem_cons_of_mem _ hy)
  have:=h x List.mem_cons_self
  simp only[List.map_cons,List.sum_cons,List.length_cons,Nat.add_mul]
  omega
theorem zab (xs:List (List UInt8)) (sep:List UInt8) (n:Nat) (hs:sep.length<=1) (h:(xs.map fun x=>x.length+1).sum<=n):(Lib.join xs sep).length<=n:=by
 have key:∀ xs:List (List UInt8),(Lib.join xs sep).length<=(xs.map fun x=>x.length+1).sum:=by
  intro xs
  match xs with
  | []=>simp[Lib.join]
  | [x]=>simp[Lib.join_one]
  | x :: y :: r =>
   have ih:∀ (zs:List (List UInt8)) (z:List UInt8),(Lib.join (z :: zs) sep).length<=((z :: zs).map fun x=>x.length+1).sum:=by
    intro zs
    induction zs with
    | nil=>intro z;simp[Lib.join_one]
    | cons u t iht =>
     intro z
     rw[js]
     have:=iht u
     simp only[List.length_append,List.map_cons,List.sum_cons]at this ⊢
     omega
   exact ih (y :: r) x
 exact Nat.le_trans (key xs) h
def X3 (k w:Int) (a b:List UInt8) (e:Int):List UInt8:=
 if j0 k = [] then [] else if qt w = [] then [] else j0 k++[58,32]++zo9 w (z6 a) (z6 b) (MF e)
theorem zev (k:Int):(j0 k).length<=10:=by
 have key:∀ (c:Prop) [Decidable c] (x y:List UInt8),x.length<=10->y.length<=10->(if c then x else y).length<=10:=fun c _ x y hx hy=>by
  by_cases h:c
  ·rw[if_pos h];exact hx
  ·rw[if_neg h];exact hy
 unfold j0
 repeat' (first | decide | refine key _ _ _ (by decide) ?_)
theorem zg2 (k w:Int) (a b:List UInt8) (e:Int) (ha:a.length<=1000) (hb:b.length<=1000):Fun Tryz.prog G2 76 [.sc (.int .i64 k),.sc (.int .i64 w),.str a,.str b,.sc (.int .i64 e)] (.str (X3 k w a b e)) 0:=by
 have h1:=GW k
 have h2:=zaz w
 have hnl:=zev k
 by_cases hn:j0 k = []
 ·rw[hn]at h1
  refine fon Tryz.func76 ?_;dsimp only[Tryz.f76]
  push_cast -dsimp
  refine cl (h1) ?_;push_cast -dsimp
  refine cl (h2) ?_;push_cast -dsimp
  exact ⟨[],rfl,rfl,by push_cast -dsimp [zb,za,CLe,ze]<;>simp[X3,hn]⟩
 by_cases hp:qt w = []
 ·rw[hp]at h2
  refine fon Tryz.func76 ?_;dsimp only[Tryz.f76]
  push_cast -dsimp
  refine cl (h1) ?_;push_cast -dsimp
  refine cl (h2) ?_;push_cast -dsimp [hn]
  exact ⟨[],rfl,rfl,by push_cast -dsimp [zb,za,CLe,ze]<;>simp[X3,hn,hp]⟩
 obtain ⟨hws,hpl⟩:(∀ x∈X9 32 (qt w),x≠[]/\x.length<=100)/\(qt w).length<=100:=(N1 w).resolve_left hp
 have hpw:=hp
 have hsay:=zfL w (z6 a) (z6 b) (MF e)
 have hsl:=MM 32 (qt w)
 have hsum:=NM (fun x=>Qr x (z6 a) (z6 b) (MF e)) 5100 (X9 32 (qt w)) fun x hx=>by
  have:=zd1 x a b e ha hb
  have:=(hws x hx).2
  omega
 have hjl:=zab ((X9 32 (qt w)).map fun x=>Qr x (z6 a) (z6 b) (MF e)) [32] 600000 (by decide) (by
  have:(X9 32 (qt w)).length*(5100+1)<=101*5101:=Nat.mul_le_mul_right _ (by omega)
  omega)
 have hit:=GR 32 (qt w) (by omega)
 generalize qt w=P at h2 hp hws hpl hsay hsl hsum hjl hit
 rw[hsay]at hjl
 refine fof (fun i=>if i=7 then [false,false,false,false,false,false,false,true,true] else []) Tryz.func76 ?_;dsimp only[Tryz.f76]
 push_cast -dsimp
 refine cl (h1) ?_;push_cast -dsimp
 refine cl (h2) ?_;push_cast -dsimp [hn,hp]
 refine zhc [] [] ((Hf 32 P).glob0) rfl (by simp) (by simp) (fun i hi=>by cases hi) (by push_cast -dsimp) rfl ?_
 push_cast -dsimp
 refine range (zB (X9 32 P)) (fun _=>false) 4 (fun j=>⟨[],[[.str a],[.str b],[.sc (.int .i64 e)],[.own 0 9 1 (zB (((X9 32 P).take j).map fun x=>Qr x (z6 a) (z6 b) (MF e)))]],1,0⟩) hit.glob0 (by push_cast -dsimp) (by push_cast -dsimp) (by push_cast -dsimp) (Nat.zero_le _) (by push_cast -dsimp) (fun it h=>?_) (fun j _=>rfl) ?_ (fun j it hj hsf=>?_) (fun hsf=>?_)
 ·obtain ⟨x,_,rfl⟩:=List.mem_map.1 h;rfl
 ·exact wks [.inr (9,1)]
 ·obtain ⟨x,hx,rfl⟩:=Vh hj
  have hjl2:j<(X9 32 P).length:=(List.getElem?_eq_some_iff.1 hx).1
  have hxw:=hws x (List.mem_of_getElem? hx)
  have hs1:=zgO x a b e hxw.1 (by omega) ha hb
  push_cast -dsimp
  refine cl (hs1) ?_;push_cast -dsimp
  repeat refine an ?_
  refine j9.mk [.inl 0] rfl rfl (Nat.le_refl _) rfl (by push_cast -dsimp [zb,za,CLe,ze]) ?_
  push_cast -dsimp [zb,za,CLe,ze]
  rw[List.take_add_one,hx]
  simp
 ·have htk:(X9 32 P).take (X9 32 P).length=X9 32 P:=List.take_length
  have j1:=((Vd ((X9 32 P).map fun x=>Qr x (z6 a) (z6 b) (MF e)) [32] (by rw[List.length_map];omega) (by rw[hsay];omega)).res (congrArg C.str hsay)).glob0 (G':=G2)
  have j2:=((zhH [j0 k,zo9 w (z6 a) (z6 b) (MF e)] (by simp) (by rw[js,Lib.join_one];simp only[List.length_append,List.length_cons,List.length_nil];omega)).res (congrArg C.str (show _=X3 k w a b e by rw[js,Lib.join_one,X3,if_neg hn,if_neg hpw]))).glob0 (G':=G2)
  push_cast -dsimp [htk]
  refine cl (j1) ?_;push_cast -dsimp
  refine cl (j2) ?_;push_cast -dsimp
  exact dn
end
section
open CA CB
open Go.RowKit QuotePlain
end
section
open CA CB
open Go.RowKit
def GD:zk:=fun g=>if g=2 then G1 g else G2 g
theorem zrh (g:Nat) (cs:List C) (h:G1 g=some cs):GD g=some cs:=by
 unfold GD
 by_cases hg:g=2
 ·rw[if_pos hg];exact h
 ·unfold G1 at h
  rw[if_neg hg]at h
  cases h
theorem zre (g:Nat) (cs:List C) (h:G2 g=some cs):GD g=some cs:=by
 unfold GD
 by_cases hg:g=2
 ·subst hg
  have q:G2 2=none:=rfl
  rw[q]at h;cases h
 ·rw[if_neg hg];exact h
theorem Fun.gd1 {f:FuncId} {args:List C} {r:C} {n:Nat} (h:Fun Tryz.prog G1 f args r n):Fun Tryz.prog GD f args r n:=h.glob zrh
theorem Fun.gd2 {f:FuncId} {args:List C} {r:C} {n:Nat} (h:Fun Tryz.prog G2 f args r n):Fun Tryz.prog GD f args r n:=h.glob zre
abbrev zqB (d:zr) (ops diags:C):C:=.agg [.sc (.int .i64 d.w.fs.maxI),.sc (.int .i64 d.w.fs.maxB),.sc (.int .i64 d.w.fs.next),.sl 6 (zD d.w.fs.xs),.sl 4 (Je d.w.kept),.sl 6 (zD d.w.pool),ops,diags,.sc (.int .i64 d.status),.sc (.int .i64 d.slot)]
structure zjo (d:zr):Prop where
 wi:UQ d.w
 ws:zfH d.w
 ops:d.ops.length<=80000
 diags:d.diags.length<=80000
 slot:0<=d.slot/\d.slot<=4000000000000000000
theorem zmN (o:OpV):opL o = [.sc (.int .i64 o.kind),.sc (.int .i64 o.slot),.str o.a,.str o.b,.str o.d]:=rfl
abbrev ZH:List C:=[.any,.any,.any,.any,.any,.any,.any,.any,.any,.any]
def Yq (d:zr) (x:List UInt8):zr:={ d with diags:=d.diags++[x],status:=1 }
theorem zlB (d:zr) (hd:d.diags.length<=80000) (k w:Int) (a b:List UInt8) (e:Int) (ha:a.length<=1000) (hb:b.length<=1000) :
  YX Tryz.prog GD 36 [Vo d,.sc (.int .i64 k),.sc (.int .i64 w),.str a,.str b,.sc (.int .i64 e)] [] 0 (fun r bx n=>n=0/\∃ c B,zof 1 c (zB (Yq d (X3 k w a b e)).diags) B/\r=zqB (Yq d (X3 k w a b e)) (.sl 5 (d.ops.map opL)) (.bs 2 0 1 (d.diags.length+1) c)/\bx = [ZH,ZH,B]):=by
 have ht:=(zg2 k w a b e ha hb).gd2
 generalize X3 k w a b e=x at ht ⊢
 have hsl:(zB d.diags).length=d.diags.length:=List.length_map ..
 have hc:=GC (G:=GD) (zB d.diags) [[.str x]] (fun r hr=>by obtain ⟨x,_,rfl⟩:=List.mem_map.1 hr;rfl) (fun r hr=>by rw[List.mem_singleton.1 hr];rfl) (fun r hr=>by obtain ⟨x,_,rfl⟩:=List.mem_map.1 hr;rfl) (fun r hr=>by rw[List.mem_singleton.1 hr];rfl) (by omega) (by simp) (by simp)
 refine foX (fun i=>if i=1 then [false,false,false,false,false,false,false,false,false,false,false,true,false,false,true] else []) Tryz.func36 ?_;dsimp only[Tryz.f36]
 push_cast -dsimp
 refine cl (ht) ?_;push_cast -dsimp
 refine YR [] [] hc rfl (by decide) (by decide) (by simp) (by push_cast -dsimp) (by push_cast -dsimp) (fun r bx' m hp=>?_)
 obtain ⟨rfl,c,B,hB,rfl,rfl⟩:=hp
 have hre:∀ fp fo,C.reL fp fo B=B:=fun fp fo=>qw hB.stay
 push_cast -dsimp [hre]
 have hm:zB (Yq d x).diags=zB d.diags++[[.str x]]:=List.map_append
 exact ⟨_,[ZH,ZH,B],0,⟨⟨rfl,c,B,by rw[hm];exact hB,rfl,rfl⟩,Nat.zero_le _⟩,[],rfl,rfl,by (push_cast -dsimp [zb,za,CLe,ze];exact zX hB.stay),by push_cast -dsimp [zb,za,CLe,ze,Yq,List.length_append,hsl]⟩
theorem zc7 (d:zr) (hd:d.diags.length<=80000) (k w:Int) (a b:List UInt8) (e:Int) (ha:a.length<=1000) (hb:b.length<=1000) :
  Fun Tryz.prog GD 36 [Vo d,.sc (.int .i64 k),.sc (.int .i64 w),.str a,.str b,.sc (.int .i64 e)] (zqB (Yq d (X3 k w a b e)) (.sl 5 (d.ops.map opL)) (.own 0 9 1 (zB (Yq d (X3 k w a b e)).diags))) 1:=
 (zlB d hd k w a b e ha hb).fun (by
  rintro r bx m ⟨rfl,c,B,hB,rfl,rfl⟩
  exact ⟨[(2,9,1,zB (Yq d (X3 k w a b e)).diags,c)],[.inl 0],hB.ok rfl (by simp[Yq]) (fun r hr=>by obtain ⟨x,_,rfl⟩:=List.mem_map.1 hr;rfl),rfl,rfl,by push_cast -dsimp [zb,za,CLe,ze,List.length_map,List.length_append,Yq]⟩)
end
section
open CA CB
open Go.RowKit
theorem znR (n m:Int):zmR n m=1↔m<n:=by
 unfold zmR
 split
 ·omega
 ·split<;>omega
theorem NG (w:Int):∀ (l:List Int) (n:Int),vo w (l++[n])=(vo w l&&(match l.getLast? with | none=>true | some m=>decide (zmR n m=w)))
 | [],n=>by simp[vo]
 | [a],n=>by simp[vo]
 | a :: b :: r,n=>by
  have ih:=NG w (b :: r) n
  simp only[List.cons_append,vo]at ih ⊢
  rw[ih,List.getLast?_cons_cons,Bool.and_assoc]
theorem V8 (w:Int):∀ (l r:List Int),vo w (l++r)=true->vo w l=true
 | [],r,_=>rfl
 | [a],r,_=>rfl
 | a :: b :: l,r,h=>by
  simp only[List.cons_append,vo,Bool.and_eq_true]at h ⊢
  exact ⟨h.1,V8 w (b :: l) r h.2⟩
theorem Gc (a b:List OpV):jD (a++b)=jD a++jD b:=by simp[jD]
theorem zgD {f:OpV->Bool} {l:List OpV} (k:Nat) (h:l.any f=false):(l.take k).any f=false:=List.any_eq_false.2 fun x hx=>List.any_eq_false.1 h x (List.mem_of_mem_take hx)
theorem za9 {l:List OpV} (k:Nat) (h:Y0 l=true):Y0 (l.take k)=true:=by
 simp only[Y0,Bool.and_eq_true,Bool.not_eq_true']at h ⊢
 refine ⟨zgD k h.1,V8 1 _ (jD (l.drop k)) ?_⟩
 rw[←Gc,List.take_append_drop];exact h.2
theorem zif {o:OpV} (h:kD o=true) (hs:jB o.kind=true):1<=o.slot/\o.slot<=1073741824:=by
 simp only[kD,hs,Bool.and_eq_true,if_true,decide_eq_true_eq]at h
 exact h.1.1.1.2
theorem vx (f:OpV->Bool) (l:List OpV) (k:Nat) (h:k<l.length):(l.take (k+1)).any f=((l.take k).any f||f (l[k]'h)):=by
 rw[List.take_add_one,List.getElem?_eq_getElem h,List.any_append]
 simp
theorem zbX {l:List Int} {d:Int} (h:l.getLast?=none):l.getLastD d=d:=by rw[List.getLastD_eq_getLast?,h];rfl
theorem zdW {l:List Int} {d m:Int} (h:l.getLast?=some m):l.getLastD d=m:=by rw[List.getLastD_eq_getLast?,h];rfl
theorem zaI (l:List OpV) (k:Nat) (h:k<l.length) (hp:Y0 (l.take k)=true) (hb:Xk (l[k]'h)=false):Y0 (l.take (k+1))=(!jB (l[k]'h).kind||decide ((jD (l.take k)).getLastD 0<(l[k]'h).slot)):=by
 simp only[Y0,Bool.and_eq_true,Bool.not_eq_true']at hp ⊢
 rw[vx _ l k h,hp.1,hb,VY l k h]
 cases hs:jB (l[k]'h).kind with
 | false=>simp[hp.2]
 | true =>
  have hm:kD (l[k]'h)=true:=by simp only[Xk,Bool.or_eq_false_iff,Bool.not_eq_false']at hb;exact hb.1
  have:=zif hm hs
  rw[if_pos rfl,NG,hp.2]
  cases hl:(jD (l.take k)).getLast? with
  | none=>rw[zbX hl];simp;omega
  | some m=>rw[zdW hl];simp[znR]
theorem zbA (l:List Int) (n d:Int):(l++[n]).getLastD d=n:=by simp
theorem zb9:Y0 []=true:=rfl
theorem zeh (l:List OpV) (hx:l.length<=100000) (hl:zi3 l):Fun Tryz.prog G0 18 [.sl 5 (zbr l)] (qh (Y0 l)) 0:=by
 refine fon Tryz.func18 ?_;dsimp only[Tryz.f18]
 push_cast -dsimp
 refine loop (fun k:Nat=>⟨[(0,.sl 5 (zbr l)),(3,.sc (.int .i64 ((jD (l.take k)).getLastD 0))),(4,.sc (.int .i64 k))],[],0,0⟩) (fun k=>k<=l.length/\Y0 (l.take k)=true) (fun k=>l.length-k) 0 ⟨Nat.zero_le _,zb9⟩ ?_ ?_
 ·exact j9.mk [] rfl rfl (Nat.zero_le _) rfl (by push_cast -dsimp [zb,za,CLe,ze]<;>rfl) (by push_cast -dsimp [zb,za,CLe,ze])
 ·intro k hk
  have hk1:=hk.1
  have hk2:=hk.2
  by_cases h:k<l.length
  ·have hg:=MI l k h
   have hsh:=hl _ (List.getElem_mem h)
   have hstep:=zaI l k h hk2
   have hst:=VY l k h
   have hfail:Y0 (l.take (k+1))=false->Y0 l=false:=fun e=>by
    cases hq:Y0 l with
    | false=>rfl
    | true=>rw[za9 (k+1) hq]at e;cases e
   have hbadf:Xk (l[k]'h)=true->Y0 l=false:=fun e=>hfail (by simp[Y0,vx,h,e])
   cases ho:l[k]'h with
   | mk kd s a b d =>
    rw[ho]at hg hsh hstep hst hbadf
    simp only[opL]at hg
    simp only at hst hstep
    have h1:=vP kd s a b d hsh
    have h2:=VM kd
    simp only[opL]at h1
    cases hm:kD ⟨kd,s,a,b,d⟩ with
    | false =>
     have hp:=hbadf (by simp[Xk,hm])
     rw[hm]at h1
     push_cast -dsimp [h,hg]
     refine ⟨by omega,?_⟩
     refine cl (h1) ?_;push_cast -dsimp
     exact ⟨[],rfl,rfl,by push_cast -dsimp [zb,za,CLe,ze];simp[hp]⟩
    | true =>
     rw[hm]at h1
     by_cases h7:7<kd
     ·have hp:=hbadf (by simp[Xk,hm,h7])
      push_cast -dsimp [h,hg]
      refine ⟨by omega,?_⟩
      refine cl (h1) ?_;push_cast -dsimp [hg,h7]
      repeat refine an ?_
      exact ⟨[],rfl,rfl,by push_cast -dsimp [zb,za,CLe,ze];simp[hp]⟩
     ·have hstep:=hstep (by simp[Xk,hm,h7])
      cases hs:jB kd with
      | false =>
       rw[hs]at h2 hstep hst
       rw[if_neg (by simp)]at hst
       push_cast -dsimp [h,hg]
       refine ⟨by omega,?_⟩
       refine cl (h1) ?_;push_cast -dsimp [hg,h7]
       repeat refine an ?_
       refine cl (h2) ?_;push_cast -dsimp
       repeat refine an ?_
       refine ⟨k+1,⟨by omega,by simpa using hstep⟩,by omega,wk (by push_cast -dsimp [zb,za,CLe,ze,hst])⟩
      | true =>
       rw[hs]at h2 hstep hst
       rw[if_pos rfl]at hst
       by_cases hlt:s<=(jD (l.take k)).getLastD 0
       ·have hp:=hfail (by rw[hstep,decide_eq_false (by omega)];rfl)
        push_cast -dsimp [h,hg]
        refine ⟨by omega,?_⟩
        refine cl (h1) ?_;push_cast -dsimp [hg,h7]
        repeat refine an ?_
        refine cl (h2) ?_;push_cast -dsimp [hg,hlt]
        repeat refine an ?_
        exact ⟨[],rfl,rfl,by push_cast -dsimp [zb,za,CLe,ze];simp[hp]⟩
       ·have hn:Y0 (l.take (k+1))=true:=by rw[hstep,decide_eq_true (by omega)];rfl
        have hlast:=zbA (jD (l.take k)) s 0
        push_cast -dsimp [h,hg]
        refine ⟨by omega,?_⟩
        refine cl (h1) ?_;push_cast -dsimp [hg,h7]
        repeat refine an ?_
        refine cl (h2) ?_;push_cast -dsimp [hg,hlt]
        repeat refine an ?_
        refine ⟨k+1,⟨by omega,hn⟩,by omega,wk (by push_cast -dsimp [zb,za,CLe,ze,hst,hlast])⟩
  ·obtain rfl:k=l.length:=by omega
   rw[List.take_length]at hk2
   push_cast -dsimp [h]
   exact ⟨[],rfl,rfl,by push_cast -dsimp [zb,za,CLe,ze];simp[hk2]⟩
end
section
open Go.RowKit
theorem ze6 (a b:List OpV) (ha:a.length<=100000):Fun Tryz.prog G0 26 [.sl 5 (zbr a),.sl 5 (zbr b)] (qh (Jx a b)) 0:=by
 by_cases hl:a.length=b.length
 ·refine fon Tryz.func26 ?_;dsimp only[Tryz.f26]
  push_cast -dsimp [hl]
  refine loop (fun k:Nat=>⟨[(0,.sl 5 (zbr a)),(1,.sl 5 (zbr b)),(5,.sc (.int .i64 k))],[],0,0⟩) (fun k=>k<=a.length/\∀ (j:Nat) (h:j<a.length) (h':j<b.length),j<k->zkl (a[j]'h) (b[j]'h')=true) (fun k=>a.length-k) 0 ⟨Nat.zero_le _,fun j _ _ hj=>by omega⟩ ?_ ?_
  ·exact wk (by push_cast -dsimp [zb,za,CLe,ze,hl])
  ·intro k hk
   have hk1:=hk.1
   have hk2:=hk.2
   by_cases h:k<a.length
   ·have hga:=MI a k h
    have hgb:=MI b k (by omega)
    have heq:zkl (a[k]'h) (b[k]'(by omega))=zkl (a[k]'h) (b[k]'(by omega)):=rfl
    simp only[opL]at hga hgb
    conv at heq=>lhs;unfold zkl
    cases he:zkl (a[k]'h) (b[k]'(by omega)) with
    | true =>
     rw[he]at heq
     push_cast -dsimp [h,hga,hgb,heq]
     repeat refine an ?_
     refine ⟨k+1,⟨by omega,fun j hj hj' hjk=>?_⟩,by omega,wk⟩
     rcases Nat.lt_or_ge j k with g | g
     ·exact hk2 j hj hj' g
     ·have:j=k:=by omega
      subst this;exact he
    | false =>
     rw[he]at heq
     push_cast -dsimp [h,hga,hgb,heq]
     repeat refine an ?_
     refine ⟨[],rfl,rfl,?_⟩
     push_cast -dsimp [zb,za,CLe,ze]
     have:¬Jx a b=true:=fun e=>by
      have:=((Yn a b).1 e).2 k h (by omega)
      rw[he]at this;cases this
     simp[this]
   ·push_cast -dsimp [h]
    refine ⟨[],rfl,rfl,?_⟩
    push_cast -dsimp [zb,za,CLe,ze]
    have:Jx a b=true:=(Yn a b).2 ⟨hl,fun j hj hj'=>hk2 j hj hj' (by omega)⟩
    simp[this]
 ·refine fon Tryz.func26 ?_;dsimp only[Tryz.f26]
  push_cast -dsimp [hl]
  refine ⟨[],rfl,rfl,?_⟩
  push_cast -dsimp [zb,za,CLe,ze]
  have:¬Jx a b=true:=fun e=>hl ((Yn a b).1 e).1
  simp[this]
end
section
open CA CB
open Go.RowKit
theorem zl6 (a b:jP):(decide (a.slot=b.slot)&&decide (a.ino=b.ino)&&a.content==b.content&&decide (a.data=b.data))=decide (a=b):=by
 obtain ⟨a1,a2,a3,a4⟩:=a
 obtain ⟨b1,b2,b3,b4⟩:=b
 rw[Bool.eq_iff_iff]
 simp[and_assoc]
theorem zeX (x y:zS) (hx:x.fs.xs.length<=100000) (hp:x.pool.length<=100000) (hk:x.kept.length<=100000) (he:∀ z∈x.fs.xs,z.es.length<=9223372036854775807) (hep:∀ z∈x.pool,z.es.length<=9223372036854775807):Fun Tryz.prog G0 19 [ZZ x,ZZ y] (qh (decide (x=y))) 0:=by
 obtain ⟨f,a,p⟩:=x
 obtain ⟨g,b,q⟩:=y
 have hk:a.length<=100000:=hk
 have hla:(Je a).length=a.length:=List.length_map ..
 have hlb:(Je b).length=b.length:=List.length_map ..
 have h1:=zdT (G:=G0) f g hx he
 have h2:=Hs (G:=G0) p q hp hep
 have hw:(⟨f,a,p⟩:zS)=⟨g,b,q⟩↔f=g/\p=q/\a=b:=by simp only[zS.mk.injEq];exact ⟨fun h=>⟨h.1,h.2.2,h.2.1⟩,fun h=>⟨h.1,h.2.2,h.2.1⟩⟩
 by_cases c1:f=g
 case neg =>
  have hn:¬(⟨f,a,p⟩:zS)=⟨g,b,q⟩:=fun h=>c1 (hw.1 h).1
  rw[decide_eq_false c1]at h1
  refine fon Tryz.func19 ?_;dsimp only[Tryz.f19]
  push_cast -dsimp
  refine cl (h1) ?_;push_cast -dsimp
  exact dn (by push_cast -dsimp [zb,za,CLe,ze,hn])
 rw[decide_eq_true c1]at h1
 by_cases c2:p=q
 case neg =>
  have hn:¬(⟨f,a,p⟩:zS)=⟨g,b,q⟩:=fun h=>c2 (hw.1 h).2.1
  rw[decide_eq_false c2]at h2
  refine fon Tryz.func19 ?_;dsimp only[Tryz.f19]
  push_cast -dsimp
  refine cl (h1) ?_;push_cast -dsimp
  refine cl (h2) ?_;push_cast -dsimp
  exact dn (by push_cast -dsimp [zb,za,CLe,ze,hn])
 rw[decide_eq_true c2]at h2
 by_cases c3:a.length=b.length
 case neg =>
  have hn:¬(⟨f,a,p⟩:zS)=⟨g,b,q⟩:=fun h=>c3 (by rw[(hw.1 h).2.2])
  have c3':((a.length:Int)=b.length)=False:=eq_false (by omega)
  refine fon Tryz.func19 ?_;dsimp only[Tryz.f19]
  push_cast -dsimp
  refine cl (h1) ?_;push_cast -dsimp
  refine cl (h2) ?_;push_cast -dsimp [hla,hlb,c3']
  exact dn (by push_cast -dsimp [zb,za,CLe,ze,hn])
 have c3':((a.length:Int)=b.length)=True:=eq_true (by omega)
 refine fon Tryz.func19 ?_;dsimp only[Tryz.f19]
 push_cast -dsimp
 refine cl (h1) ?_;push_cast -dsimp
 refine cl (h2) ?_;push_cast -dsimp [hla,hlb,c3']
 refine loop (fun i:Nat=>⟨[(2,.ptr 0 0),(3,.ptr 1 0),(5,.sc (.int .i64 i))],[UH ⟨f,a,p⟩,UH ⟨g,b,q⟩],0,0⟩) (fun i=>i<=a.length/\a.take i=b.take i) (fun i=>a.length-i) 0 ⟨Nat.zero_le _,rfl⟩ ?_ ?_
 ·exact wk
 rintro i ⟨i1,i2⟩
 by_cases h:i<a.length
 ·have hb:i<b.length:=by omega
  have g1:=Jh a i h
  have g2:=Jh b i hb
  have hd:=zl6 a[i] b[i]
  by_cases hab:a[i]=b[i]
  ·rw[decide_eq_true hab]at hd
   push_cast -dsimp [hla,hlb,h,hb,g1,g2,hd]
   repeat refine an ?_
   repeat refine an ?_
   exact ⟨i+1,⟨h,(Xc (by omega) hb i2).2 hab⟩,by omega,wk⟩
  ·rw[decide_eq_false hab]at hd
   have hn:¬(⟨f,a,p⟩:zS)=⟨g,b,q⟩:=fun h=>hab (by have:=(hw.1 h).2.2;subst this;rfl)
   push_cast -dsimp [hla,hlb,h,hb,g1,g2,hd]
   repeat refine an ?_
   exact dn (by push_cast -dsimp [zb,za,CLe,ze,hn])
 ·have hab:a=b:=by rw[←List.take_of_length_le (l:=a) (i:=i) (by omega),i2,List.take_of_length_le (by omega)]
  have hn:=hw.2 ⟨c1,c2,hab⟩
  push_cast -dsimp [hla,h]
  exact dn (by push_cast -dsimp [zb,za,CLe,ze,hn])
theorem G8 (w:zS) (hk:w.kept.length<=100000) (hs:Y6 w.kept):Fun Tryz.prog G0 12 [ZZ w] (Vo (Gj w)) 0:=by
 have h:=VD (G:=G0) w hk hs.1 hs.2
 refine fof (fun i=>if i=1 then [false,false,false,false,true] else []) Tryz.func12 ?_;dsimp only[Tryz.f12]
 push_cast -dsimp
 refine cl (h) ?_;push_cast -dsimp
 exact dn (by push_cast -dsimp [zb,za,CLe,ze,Gj])
end
section
open Go.RowKit
structure zrB where
 path:List UInt8
 ino:Int
deriving DecidableEq,Inhabited
def Un (p n:List UInt8):List UInt8:=if p = [47] then p++n else p++[47]++n
theorem zfm (p n:List UInt8):(Un p n).length<=p.length+1+n.length:=by
 unfold Un
 split<;>simp<;>omega
section
variable {G:zk}
end
end
end Go.Proofs.YtaipngaejfndgaaGreatDoor.Vcg
