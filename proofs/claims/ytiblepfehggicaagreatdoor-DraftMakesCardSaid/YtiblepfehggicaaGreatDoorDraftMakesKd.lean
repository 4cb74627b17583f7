/- What the proof of DraftMakes leans on, part 4: Path1 Path2 Path3 Path4 May1 May2 May3 Path5 Ref3 PathLaw Open Laid Op1 QuotePlain QuotePlain2 QuotePlain3 OpV Op2 Wld0 Ent1 Ent2 EntW TabW Wld1 Wld2 Wld3 Wld4 Wld5 Room Plc Crt Drp Mov SlcK Sts OpenW StW Sts2 StX Kep Stp Stp2 Stp3 Stp4 Deed Doo Dra1 Dra2 Rf4. No condition beyond what each theorem states. -/
import Derived.Test.YtiblepfehggicaaGreatDoorDraftMakesKc
import Derived.Laws.Runes
import Derived.Laws.RangeString
import Derived.WalkKit
import Derived.Deep.LoopGhost
import Derived.Lib.QuoteLoop
import Derived.Lib.IndexAny
import Derived.ProofKit
import Derived.Deep.Slices
import Derived.Deep.Fields
import Derived.ChangeSame
import Derived.ChangeOld
import Derived.Lib.SmallJoins
import Derived.Lib.LaidU8
import Derived.OpenShut
import Derived.FnData
import Derived.Lib.Bytealg
set_option linter.unusedVariables false
set_option linter.unusedSimpArgs false
set_option linter.unusedSectionVars false
set_option maxRecDepth 100000
set_option maxHeartbeats 4000000
namespace Go.Proofs.YtiblepfehggicaaGreatDoor.Vcg
section
open Go.RowKit
theorem Fun.wrap {P:Program} {G:zm} {f:FuncId} {args:List C} {r:C} (he:Yy P f=true)
  (h:∀ (R:Env) (vs:List Value),zu R zI args vs->Calls P f vs.toArray R.w fun e w'=>∃ v,e = .returned v/\Below R.w.heap.size R.w w'/\∀ R',Ext R R'->Rep R' zI r v):Fun P G f args r 0:=by
 refine ⟨he,fun R vs hg ha=>(h R vs ha).mono ?_⟩
 rintro e w' ⟨v,rfl,hb,hr⟩
 have st:qp 0 0 R zI ⟨w',fun b o=>b<R.w.heap.size/\R.M b o,R.F⟩ zI:=qp.mem (nx:=0) hb
 exact ⟨v,_,zI,rfl,rfl,st,hr _ st.ext⟩
def Jc:List UInt8->List (List UInt8)
 | []=>[[]]
 | b :: l=>if b=47 then [] :: Jc l else match Jc l with
  | []=>[[b]]
  | x :: r=>(b :: x) :: r
theorem Nc (l:List UInt8):Jc l≠[]:=by
 cases l with
 | nil=>simp[Jc]
 | cons b l =>
  unfold Jc
  split
  ·simp
  ·split<;>simp
theorem GA:∀ l:List UInt8,Lib.indexByte l 47<0->Jc l = [l]
 | [],_=>rfl
 | b :: l,h=>by
  unfold Lib.indexByte at h
  by_cases hb:b=47
  ·subst hb;simp at h
  ·have hb':(b==47)=false:=by simpa using hb
   rw[hb']at h
   simp only[Bool.false_eq_true,if_false]at h
   have hl:Lib.indexByte l 47<0:=by
    split at h
    ·rename_i g;have:=beq_iff_eq.1 g;omega
    ·omega
   unfold Jc
   rw[if_neg hb,GA l hl]
theorem HG:∀ l:List UInt8,-1<=Lib.indexByte l 47
 | []=>Int.le_refl _
 | b :: l=>by
  have:=HG l
  unfold Lib.indexByte
  split
  ·decide
  ·split
   ·decide
   ·omega
theorem ui:∀ (l:List UInt8) (i:Nat),Lib.indexByte l 47=(i:Int)->i<l.length/\Jc l=l.take i :: Jc (l.drop (i+1))
 | [],i,h=>by
  have h:(-1:Int)=(i:Int):=h
  omega
 | b :: l,i,h=>by
  unfold Lib.indexByte at h
  by_cases hb:b=47
  ·subst hb
   simp at h
   obtain rfl:i=0:=by omega
   refine ⟨by simp,?_⟩
   conv=>lhs;unfold Jc
   simp
  ·have hb':(b==47)=false:=by simpa using hb
   rw[hb']at h
   simp only[Bool.false_eq_true,if_false]at h
   split at h
   ·omega
   ·rename_i g
    have g':Lib.indexByte l 47≠-1:=by simpa using g
    have hg:=HG l
    obtain ⟨j,rfl⟩:∃ j,i=j+1:=⟨i-1,by omega⟩
    have hj:Lib.indexByte l 47=(j:Int):=by omega
    obtain ⟨h1,h2⟩:=ui l j hj
    refine ⟨by simp;omega,?_⟩
    conv=>lhs;unfold Jc
    rw[if_neg hb,h2]
    simp
theorem Ua:∀ (l:List UInt8) (a:List (List UInt8)) (cur:List UInt8),ziW (l.foldl Zx (a,cur))=a++(match Jc l with | []=>[] | x :: r=>(cur++x) :: r).filter (fun x=>!decide (x = []))
 | [],a,cur=>by
  simp only[List.foldl_nil,ziW,Jc]
  by_cases h:cur = []<;>simp[h]
 | b :: l,a,cur=>by
  simp only[List.foldl_cons]
  by_cases hb:b=47
  ·subst hb
   have hn:Zx (a,cur) 47=(if cur = [] then a else a++[cur],[]):=by simp[Zx]
   rw[hn,Ua l]
   conv=>rhs;unfold Jc
   simp only[if_true]
   have hne:=Nc l
   cases hs:Jc l with
   | nil=>exact absurd hs hne
   | cons x r=>by_cases h:cur = []<;>simp[h]
  ·have hn:Zx (a,cur) b=(a,cur++[b]):=by simp[Zx,hb]
   rw[hn,Ua l]
   conv=>rhs;unfold Jc
   rw[if_neg hb]
   have hne:=Nc l
   cases hs:Jc l with
   | nil=>exact absurd hs hne
   | cons x r=>simp
theorem J4 (l:List UInt8):zJ l=(Jc l).filter (fun x=>!decide (x = [])):=by
 unfold zJ
 rw[Ua]
 cases hs:Jc l with
 | nil=>rfl
 | cons x r=>simp
theorem zc3 (l:List UInt8):Fun Tryz.prog G0 186 [.str l,.str [47]] (.sc (.int .i64 (Lib.indexByte l 47))) 0:=by
 refine Fun.wrap (by kernel_rfl) fun R vs h=>?_
 obtain ⟨v1,us1,rfl,h1,h⟩:=ze.1 h
 obtain ⟨v2,us2,rfl,h2,h⟩:=ze.1 h
 rw[zj]at h
 subst h
 rw[zU]at h1 h2
 subst h1 h2
 refine (Tryz.strings_Index_one ⟨l.toArray⟩ 47 R.w).mono ?_
 rintro e w' ⟨rfl,rfl⟩
 exact ⟨_,rfl,Below.refl _ _,fun R' _=>zo.2 (by simp)⟩
theorem kf (s:List UInt8) (hs:s.length<=1000000):ko Tryz.prog G0 184 [] [.ptr 1 0,.ptr 0 0,.ptr 2 0] [[.str s],[.str [47]],[.sc (.int .i64 0)]] (qZ (Jc s)):=by
 refine ko.of (fun _=>[]) Tryz.func184 rfl (zi rfl) (by kernel_rfl) ?_;dsimp only[Tryz.f184]
 intro l sf
 push_cast -dsimp
 refine loop (fun x:List UInt8×Nat=>⟨[(0,.sc (.func (.yield l) #[] #[])),(1,.ptr 1 0),(2,.ptr 0 0),(3,.ptr 2 0)],[[.str x.1],[.str [47]],[.sc (.int .i64 0)]],0,x.2⟩)
  (fun x=>x.1.length<=1000000/\(∃ done,Jc s=done++Jc x.1/\done.length=x.2)/\∀ j,j<x.2->sf j=false) (fun x=>x.1.length) (s,0) ⟨hs,⟨[],rfl,rfl⟩,fun j hj=>by omega⟩ ?_ ?_
 ·refine zH.mk [] rfl rfl (Nat.zero_le _) rfl ?_ ?_<;>push_cast -dsimp [zb,za,CLe,zd]<;>omega
 ·rintro ⟨r,k⟩ hx
  simp only at hx ⊢
  have hr:=hx.1
  have hsf:=hx.2.2
  obtain ⟨done,hd,hdl⟩:=hx.2.1
  clear hx
  push_cast -dsimp
  refine call (zc3 r) ?_
  push_cast -dsimp
  by_cases hi:Lib.indexByte r 47<0
  ·push_cast -dsimp [hi]
   have hk:(qZ (Jc s))[k]?=some [.str r]:=by
    rw[hd,GA r hi];simp[←hdl]
   rw[hk]
   push_cast -dsimp
   refine ⟨by push_cast -dsimp [zb,za,CLe,zd],hsf,?_⟩
   cases hk2:sf k with
   | true=>exact .inr ⟨Nat.succ_pos k,hk2⟩
   | false =>
    refine .inl ⟨?_,fun j (hj:j<k+1)=>?_⟩
    ·rw[hd,GA r hi];simp[hdl]
    ·rcases Nat.lt_or_ge j k with g | g
     ·exact hsf j g
     ·rw[show j=k by omega];exact hk2
  ·have hg:=HG r
   obtain ⟨i,hii⟩:∃ i:Nat,Lib.indexByte r 47=(i:Int):=⟨(Lib.indexByte r 47).toNat,by omega⟩
   obtain ⟨hir,hsp⟩:=ui r i hii
   have hk:(qZ (Jc s))[k]?=some [.str (r.take i)]:=by
    rw[hd,hsp];simp[←hdl]
   rw[hii]at hi ⊢
   push_cast -dsimp [hi]
   rw[hk]
   push_cast -dsimp
   refine ⟨by omega,by omega,by push_cast -dsimp [zb,za,CLe,zd],hsf,br (fun hk2=>?_) (fun hk2=>?_)⟩
   ·push_cast -dsimp
    exact .inr ⟨Nat.succ_pos k,hk2⟩
   ·push_cast -dsimp
    refine ⟨by omega,by omega,(r.drop (i+1),k+1),⟨by simp;omega,⟨done++[r.take i],by rw[hd,hsp];simp,by simp[hdl]⟩,fun j (hj:j<k+1)=>?_⟩,by simp;omega,zH.mk [] rfl rfl (Nat.zero_le _) rfl ?_ ?_⟩
    ·rcases Nat.lt_or_ge j k with g | g
     ·exact hsf j g
     ·rw[show j=k by omega];exact hk2
    ·push_cast -dsimp [zb,za,CLe,zd]
    ·push_cast -dsimp [zb,za,CLe,zd]
theorem Nw (s:List UInt8):Vd Tryz.prog G0 152 [.str s,.str [47],.sc (.int .i64 0)] [] 0 (.clo (.func 184) [] [.ptr 1 0,.ptr 0 0,.ptr 2 0]) [[.str s],[.str [47]],[.sc (.int .i64 0)]] 0:=by
 refine Vd.of (fun _=>[]) Tryz.func152 rfl (zi rfl) (by kernel_rfl) (zi rfl) ?_;dsimp only[Tryz.f152]
 push_cast -dsimp
 exact ⟨[],rfl,rfl,by push_cast -dsimp [zb,za,CLe,zd],by push_cast -dsimp [zb,za,CLe,zd]⟩
theorem NW (s:List UInt8):Vd Tryz.prog G0 104 [.str s,.str [47]] [] 0 (.clo (.func 184) [] [.ptr 1 0,.ptr 0 0,.ptr 2 0]) [[.str s],[.str [47]],[.sc (.int .i64 0)]] 0:=by
 refine Vd.of (fun _=>[]) Tryz.func104 rfl (zi rfl) (by kernel_rfl) (zi rfl) ?_;dsimp only[Tryz.f104]
 push_cast -dsimp
 refine x4 [] [] (Nw s) rfl (by simp) (by simp) (fun i hi=>by cases hi) (by push_cast -dsimp) rfl ?_
 push_cast -dsimp
 exact ⟨[],rfl,rfl,by push_cast -dsimp [zb,za,CLe,zd],by push_cast -dsimp [zb,za,CLe,zd]⟩
end
section
open Go.RowKit
abbrev kP (x:List UInt8):Bool:=!decide (x = [])
def cnt (xs:List (List UInt8)) (k:Nat):Nat:=((xs.take k).filter kP).length
theorem y5 (xs:List (List UInt8)) (k:Nat) (x:List UInt8) (h:xs[k]?=some x):cnt xs (k+1)=if x = [] then cnt xs k else cnt xs k+1:=by
 unfold cnt
 rw[List.take_add_one,h]
 by_cases hx:x = []<;>simp[hx]
theorem zjs (xs:List (List UInt8)) (k:Nat) (x:List UInt8) (h:xs[k]?=some x) (hx:x≠[]):(xs.filter kP)[cnt xs k]?=some x:=by
 have hk:k<xs.length:=(List.getElem?_eq_some_iff.1 h).1
 have e:xs=xs.take k++x :: xs.drop (k+1):=by
  have:=List.take_append_drop k xs
  rw[List.drop_eq_getElem_cons hk]at this
  rw[List.getElem?_eq_getElem hk]at h
  cases h;exact this.symm
 have e2:xs.filter kP=(xs.take k).filter kP++x :: (xs.drop (k+1)).filter kP:=by
  conv=>lhs;rw[e]
  rw[List.filter_append,List.filter_cons]
  simp[hx]
 rw[e2]
 unfold cnt
 simp
theorem zlM (xs:List (List UInt8)):cnt xs xs.length=(xs.filter kP).length:=by unfold cnt;rw[List.take_length]
theorem Zm {xs:List (List UInt8)} {sf:Nat->Bool}:∀ k,k<=xs.length->(∀ j,j<k->(kP (xs.getD j [])&&sf (cnt xs j))=false)->∀ j,j<cnt xs k->sf j=false
 | 0,_,_,j,hj=>by simp[cnt]at hj
 | k+1,hk,h,j,hj=>by
  have ih:=Zm k (by omega) fun i hi=>h i (by omega)
  have hx:xs[k]?=some (xs.getD k []):=by rw[List.getD_eq_getElem?_getD,List.getElem?_eq_getElem (by omega)];rfl
  rw[y5 xs k _ hx]at hj
  by_cases he:xs.getD k [] = []
  ·rw[if_pos he]at hj;exact ih j hj
  ·rw[if_neg he]at hj
   rcases Nat.lt_or_ge j (cnt xs k) with g | g
   ·exact ih j g
   ·have h2:=h k (by omega)
    have h3:kP (xs.getD k [])=true:=by simp only[kP,Bool.not_eq_true',decide_eq_false_iff_not];exact he
    rw[h3,Bool.true_and]at h2
    rw[show j=cnt xs k by omega];exact h2
theorem GP {xs:List (List UInt8)} {k:Nat} {it:List C} (h:(qZ xs)[k]?=some it):∃ x,xs[k]?=some x/\it = [.str x]:=by
 rw[List.getElem?_map]at h
 cases hq:xs[k]? with
 | none=>rw[hq]at h;cases h
 | some x=>rw[hq]at h;cases h;exact ⟨x,rfl,rfl⟩
theorem yB (p:List UInt8) (hs:p.length<=1000000):ko Tryz.prog G0 121 [] [.row [.str p]] [] (qZ (zJ p)):=by
 rw[J4]
 refine ko.of (fun _=>[]) Tryz.func121 rfl (zi rfl) (by kernel_rfl) ?_;dsimp only[Tryz.f121]
 intro l sf
 push_cast -dsimp
 refine x4 [] [] (NW p) rfl (by simp) (by simp) (fun i hi=>by cases hi) (by push_cast -dsimp) rfl ?_
 push_cast -dsimp
 refine range (qZ (Jc p)) (fun k=>kP ((Jc p).getD k [])&&sf (cnt (Jc p) k)) 1 (fun k=>⟨[],[[.sc (.func (.yield l) #[] #[])]],0,cnt (Jc p) k⟩) (kf p hs) (by push_cast -dsimp) (by push_cast -dsimp) (by push_cast -dsimp) (Nat.zero_le _) (by push_cast -dsimp) (fun it hit=>?_) (fun k _=>rfl) ?_ (fun k it hk hsf=>?_) (fun hsf=>?_)
 ·obtain ⟨x,_,rfl⟩:=List.mem_map.1 hit;rfl
 ·exact zH.mk [] rfl rfl (Nat.le_refl _) rfl (by push_cast -dsimp [zb,za,CLe,zd]) (by push_cast -dsimp [zb,za,CLe,zd])
 ·obtain ⟨x,hx,rfl⟩:=GP hk
  have hxd:(Jc p).getD k []=x:=by rw[List.getD_eq_getElem?_getD,hx];rfl
  have hkl:k<(Jc p).length:=(List.getElem?_eq_some_iff.1 hx).1
  have hcs:=y5 (Jc p) k x hx
  have hbef:=Zm (xs:=Jc p) (sf:=sf) k (by omega) hsf
  by_cases he:x = []
  ·push_cast -dsimp [he]
   refine ⟨?_,zH.mk [] rfl rfl (Nat.le_refl _) ?_ (by push_cast -dsimp [zb,za,CLe,zd]) (by push_cast -dsimp [zb,za,CLe,zd])⟩
   ·rw[hxd,he];rfl
   ·simp[hcs,he,St.wt]
  ·have hget:=zjs (Jc p) k x hx he
   have hg2:(qZ ((Jc p).filter kP))[cnt (Jc p) k]?=some [.str x]:=by rw[List.getElem?_map,hget];rfl
   push_cast -dsimp [he]
   rw[hg2]
   push_cast -dsimp
   refine ⟨by push_cast -dsimp [zb,za,CLe,zd],hbef,br (fun h2=>?_) (fun h2=>?_)⟩
   ·push_cast -dsimp
    refine ⟨by rw[hxd,h2];simp[kP,he],⟨[],[[.sc (.func (.yield l) #[] #[])]],0,cnt (Jc p) k+1⟩,rfl,zH.mk [] rfl rfl (Nat.le_refl _) rfl (by push_cast -dsimp [zb,za,CLe,zd]) (by push_cast -dsimp [zb,za,CLe,zd]),?_⟩
    push_cast -dsimp
    exact .inr ⟨Nat.succ_pos _,h2⟩
   ·push_cast -dsimp
    refine ⟨by rw[h2,Bool.and_false],zH.mk [] rfl rfl (Nat.le_refl _) ?_ (by push_cast -dsimp [zb,za,CLe,zd]) (by push_cast -dsimp [zb,za,CLe,zd])⟩
    simp[hcs,he,St.wt]
 ·have hall:=zlM (Jc p)
  have hbef:=Zm (xs:=Jc p) (sf:=sf) (Jc p).length (Nat.le_refl _) fun j hj=>hsf j (by simpa using hj)
  push_cast -dsimp
  refine .inl ⟨?_,?_⟩
  ·simp[hall]
  ·simpa using hbef
end
section
open Go.RowKit
theorem ZI (p:List UInt8):Fun Tryz.prog G0 80 [.str p] (.clo (.func 121) [] [.row [.str p]]) 0:=by
 refine Fun.of (fun _=>[]) Tryz.func80 rfl (zi rfl) (by kernel_rfl) ?_;dsimp only[Tryz.f80]
 push_cast -dsimp
 exact ⟨[],rfl,rfl,by push_cast -dsimp [zb,za,CLe,zd]⟩
theorem HK (xs:List (List UInt8)) (f:FuncId) (cap:List C) (hsel:C.selL (YR 1) cap=cap) (hit:ko Tryz.prog G0 f [] cap [] (qZ xs)) (hx:xs.length<=1000001):Fun Tryz.prog G0 120 [.sc (.slice none 0 0),.clo (.func f) [] cap] (.own 0 9 1 (qZ xs)) 1:=by
 refine Fun.of (fun _=>[]) Tryz.func120 rfl (zi rfl) (by kernel_rfl) ?_;dsimp only[Tryz.f120]
 push_cast -dsimp
 refine range (qZ xs) (fun _=>false) 1 (fun k=>⟨[],[[.own 0 9 1 (qZ (xs.take k))]],1,0⟩) hit (by push_cast -dsimp) hsel (by push_cast -dsimp) (Nat.zero_le _) (by push_cast -dsimp) (fun it h=>?_) (fun k _=>rfl) ?_ (fun k it hk hsf=>?_) (fun hsf=>?_)
 ·obtain ⟨x,_,rfl⟩:=List.mem_map.1 h;rfl
 ·exact zH.mk [.inr (9,1)] rfl rfl (Nat.le_refl _) rfl (by push_cast -dsimp [zb,za,CLe,zd]) (by push_cast -dsimp [zb,za,CLe,zd])
 ·obtain ⟨x,hx2,rfl⟩:=GP hk
  have hkl:k<xs.length:=(List.getElem?_eq_some_iff.1 hx2).1
  push_cast -dsimp
  simp only[List.length_take]
  refine ⟨by omega,by omega,zH.mk [.inl 0] rfl rfl (Nat.le_refl _) rfl (by push_cast -dsimp [zb,za,CLe,zd]) ?_⟩
  push_cast -dsimp [zb,za,CLe,zd]
  rw[List.take_add_one,hx2]
  rfl
 ·push_cast -dsimp
  refine ⟨[.inl 0],rfl,rfl,?_⟩
  push_cast -dsimp [zb,za,CLe,zd]
  simp
theorem yD (xs:List (List UInt8)) (f:FuncId) (cap:List C) (hsel:C.selL (YR 1) cap=cap) (hfrz:C.frzL cap=cap) (hit:ko Tryz.prog G0 f [] cap [] (qZ xs)) (hx:xs.length<=1000001):Fun Tryz.prog G0 79 [.clo (.func f) [] cap] (.own 0 9 1 (qZ xs)) 1:=by
 refine Fun.of (fun _=>[]) Tryz.func79 rfl (zi rfl) (by kernel_rfl) ?_;dsimp only[Tryz.f79]
 push_cast -dsimp [hfrz]
 refine call (HK xs f cap hsel hit hx) ?_
 push_cast -dsimp
 exact ⟨[.inl 0],rfl,rfl,by push_cast -dsimp [zb,za,CLe,zd]⟩
theorem Xx (p:List UInt8) (hp:p.length<=1000000):Fun Tryz.prog G0 79 [.clo (.func 121) [] [.row [.str p]]] (.own 0 9 1 (qZ (zJ p))) 1:=
 yD (zJ p) _ _ (by push_cast -dsimp) (by push_cast -dsimp) (yB p hp) (by have:=j6 p;omega)
theorem QY (s p:List UInt8):Fun Tryz.prog G0 81 [.str s,.str p] (.sc (.bool (Lib.hasPrefix s p))) 0:=by
 refine Fun.wrap (by kernel_rfl) fun R vs h=>?_
 obtain ⟨v1,us1,rfl,h1,h⟩:=ze.1 h
 obtain ⟨v2,us2,rfl,h2,h⟩:=ze.1 h
 rw[zj]at h
 subst h
 rw[zU]at h1 h2
 subst h1 h2
 refine (Tryz.strings_HasPrefix ⟨s.toArray⟩ ⟨p.toArray⟩ R.w).mono ?_
 rintro e w' ⟨rfl,rfl⟩
 exact ⟨_,rfl,Below.refl _ _,fun R' _=>zo.2 (by simp)⟩
theorem Zg (s p:List UInt8) (hs:s.length<=1000000):Fun Tryz.prog G0 38 [.str s,.str p] (.sc (.bool (Lib.hasSuffix s p))) 0:=by
 refine Fun.wrap (by kernel_rfl) fun R vs h=>?_
 obtain ⟨v1,us1,rfl,h1,h⟩:=ze.1 h
 obtain ⟨v2,us2,rfl,h2,h⟩:=ze.1 h
 rw[zj]at h
 subst h
 rw[zU]at h1 h2
 subst h1 h2
 refine (Tryz.strings_HasSuffix ⟨s.toArray⟩ ⟨p.toArray⟩ R.w (by simp[ByteArray.size];omega)).mono ?_
 rintro e w' ⟨rfl,rfl⟩
 exact ⟨_,rfl,Below.refl _ _,fun R' _=>zo.2 (by simp)⟩
theorem HU (xs:List (List UInt8)) (sep:List UInt8) (hx:xs.length<=1000001) (hl:(Lib.join xs sep).length<=100000000):Fun Tryz.prog G0 78 [.sl 1 (qZ xs),.str sep] (.str (Lib.join xs sep)) 0:=by
 refine Fun.wrap (by kernel_rfl) fun R vs h=>?_
 obtain ⟨v1,us1,rfl,h1,h⟩:=ze.1 h
 obtain ⟨v2,us2,rfl,h2,h⟩:=ze.1 h
 rw[zj]at h
 subst h
 rw[zU]at h2
 subst h2
 obtain ⟨a,cap,rfl,hc1,hc2,hr⟩:=kE.1 h1
 have hlen:(qZ xs).length=xs.length:=by simp
 have hmap:(xs.map fun x=>ByteArray.mk x.toArray).map (·.data.toList)=xs:=by
  rw[List.map_map]
  conv=>rhs;rw[←List.map_id xs]
  exact List.map_congr_left fun x _=>by simp
 rcases hr with hr | ⟨b,o,rfl,hr⟩
 ·have:xs = []:=by simpa using hr
  subst this
  refine (Tryz.strings_Join_none a cap ⟨sep.toArray⟩ R.w).mono ?_
  rintro e w' ⟨rfl,rfl⟩
  exact ⟨_,rfl,Below.refl _ _,fun R' _=>zU.2 (by simp[Lib.join])⟩
 ·by_cases hx0:xs = []
  ·subst hx0
   refine (Tryz.strings_Join_none _ cap ⟨sep.toArray⟩ R.w).mono ?_
   rintro e w' ⟨rfl,rfl⟩
   exact ⟨_,rfl,Below.refl _ _,fun R' _=>zU.2 (by simp[Lib.join])⟩
  ·have hcells:∀ (j:Nat) x,(xs.map fun x=>ByteArray.mk x.toArray)[j]?=some x->R.w.cell? ⟨b,o+j,none⟩=some (.string x):=fun j x hj=>by
    rw[List.getElem?_map]at hj
    cases hq:xs[j]? with
    | none=>rw[hq]at hj;cases hj
    | some y =>
     rw[hq]at hj;cases hj
     obtain ⟨_,g⟩:=jk hr j [.str y] (by rw[List.getElem?_map,hq];rfl)
     obtain ⟨⟨v,g1,_,g2,_⟩,_⟩:=qi.1 g
     rw[zU]at g2
     subst g2
     simpa using g1
   have hb:b<R.w.heap.size:=by
    cases xs with
    | nil=>exact absurd rfl hx0
    | cons x r =>
     exact xZ (hcells 0 ⟨x.toArray⟩ rfl)
   have hj:=Tryz.strings_Join b o cap (xs.map fun x=>ByteArray.mk x.toArray) ⟨sep.toArray⟩ R.w hcells hb (by simp;omega) (by simpa using hc1) (by rw[hmap];simp;omega)
   rw[hmap]at hj
   simp only[List.length_map]at hj
   rw[hlen]
   refine hj.mono ?_
   rintro e w' ⟨rfl,hbl⟩
   exact ⟨_,rfl,hbl,fun R' _=>zU.2 (by simp)⟩
end
section
open Go.RowKit
def zil (p:List UInt8):C:=.agg [qD (Lib.hasPrefix p [47]),.own 0 9 1 (qZ (zJ p)),qD (!decide (zJ p = [])&&Lib.hasSuffix p [47])]
theorem zgp (p:List UInt8) (hp:p.length<=1000000):Fun Tryz.prog G0 45 [.str p] (zil p) 1:=by
 refine Fun.of (fun _=>[]) Tryz.func45 rfl (zi rfl) (by kernel_rfl) ?_;dsimp only[Tryz.f45]
 push_cast -dsimp
 refine call (ZI p) ?_
 push_cast -dsimp
 refine call (Xx p hp) ?_
 push_cast -dsimp
 refine call (QY p [47]) ?_
 push_cast -dsimp
 by_cases h:zJ p = []
 ·push_cast -dsimp [h]
  exact ⟨[.inl 0],rfl,rfl,by simp only[zil];push_cast -dsimp [zb,za,CLe,zd,h];simp⟩
 ·have h':0<(zJ p).length:=List.length_pos_iff.2 h
  push_cast -dsimp [h']
  refine call (Zg p [47] hp) ?_
  push_cast -dsimp
  exact ⟨[.inl 0],rfl,rfl,by simp only[zil];push_cast -dsimp [zb,za,CLe,zd,h]⟩
def put (a:Bool) (xs:List (List UInt8)) (s:Bool):List UInt8:=(if a then [47] else [])++Lib.join xs [47]++(if s&&!decide (xs = []) then [47] else [])
def q9 (xs:List (List UInt8)):List UInt8:=if xs = [] then [47] else 47 :: Lib.join xs [47]
theorem Xu (xs:List (List UInt8)) (hx:xs.length<=1000001) (hl:(Lib.join xs [47]).length<=100000000):Fun Tryz.prog G0 44 [.sl 1 (qZ xs)] (.str (q9 xs)) 0:=by
 refine Fun.of (fun _=>[]) Tryz.func44 rfl (zi rfl) (by kernel_rfl) ?_;dsimp only[Tryz.f44]
 push_cast -dsimp
 by_cases h:xs = []
 ·push_cast -dsimp [h]
  exact ⟨[],rfl,rfl,by simp only[q9,h];push_cast -dsimp [zb,za,CLe,zd]⟩
 ·have h':¬((xs.length:Int)=0):=by have:=List.length_pos_iff.2 h;omega
  push_cast -dsimp [h']
  refine call ((HU xs [47] hx hl)) ?_
  push_cast -dsimp
  exact ⟨by omega,[],rfl,rfl,by simp only[q9,if_neg h];push_cast -dsimp [zb,za,CLe,zd]⟩
def Xf (p q:List UInt8):Bool:=decide (p=q)||decide (q = [47])||Lib.hasPrefix p (q++[47])
theorem Hf (p q:List UInt8) (hq:q.length<=1000000):Fun Tryz.prog G0 135 [.str p,.str q] (qD (Xf p q)) 0:=by
 refine Fun.of (fun _=>[]) Tryz.func135 rfl (zi rfl) (by kernel_rfl) ?_;dsimp only[Tryz.f135]
 push_cast -dsimp
 by_cases h1:p=q
 ·push_cast -dsimp [h1]
  exact ⟨[],rfl,rfl,by push_cast -dsimp [zb,za,CLe,zd];simp[Xf]⟩
 ·by_cases h2:q = [47]
  ·subst h2
   push_cast -dsimp [h1]
   exact ⟨[],rfl,rfl,by push_cast -dsimp [zb,za,CLe,zd];simp[Xf]⟩
  ·push_cast -dsimp [h1,h2]
   refine ⟨by omega,?_⟩
   refine call (QY p (q++[47])) ?_
   push_cast -dsimp
   exact ⟨[],rfl,rfl,by push_cast -dsimp [zb,za,CLe,zd];simp[Xf,h1,h2]⟩
end
section
open Go.RowKit
theorem Gn (l:List UInt8) (c:UInt8):Fun Tryz.prog G0 260 [.str l,.sc (.int .u8 (c.toNat:Int))] (.sc (.int .i64 (Lib.indexByte l c))) 0:=by
 refine Fun.wrap (by kernel_rfl) fun R vs h=>?_
 obtain ⟨v1,us1,rfl,h1,h⟩:=ze.1 h
 obtain ⟨v2,us2,rfl,h2,h⟩:=ze.1 h
 rw[zj]at h
 subst h
 rw[zU]at h1
 rw[zo]at h2
 subst h1 h2
 refine (Tryz.strings_IndexByte ⟨l.toArray⟩ (c.toNat:Int) R.w).mono ?_
 rintro e w' ⟨rfl,rfl⟩
 exact ⟨_,rfl,Below.refl _ _,fun R' _=>zo.2 (by simp)⟩
theorem YW (r:Int):Fun Tryz.prog G0 261 [.sc (.int .i32 r)] (.sc (.bool (Lib.validRune r))) 0:=by
 refine Fun.wrap (by kernel_rfl) fun R vs h=>?_
 obtain ⟨v1,us1,rfl,h1,h⟩:=ze.1 h
 rw[zj]at h
 subst h
 rw[zo]at h1
 subst h1
 refine (Tryz.utf8_ValidRune r R.w).mono ?_
 rintro e w' ⟨rfl,rfl⟩
 exact ⟨_,rfl,Below.refl _ _,fun R' _=>zo.2 rfl⟩
theorem ziA (r:Int) (hv:Utf8.valid r=true) (h128:128<=r):∃ l c,(Utf8.encode r).data.toList=l++[c]/\1<=l.length/\l.length<=3/\128<=c.toNat:=by
 obtain ⟨h1,h2,h3⟩:=encode_facts r hv h128
 generalize Utf8.encode r=bs at h1 h2 h3 ⊢
 have hs:bs.data.toList.length=bs.size:=Array.length_toList
 have h4:=h3 (by omega)
 have h5:bs.data.toList[bs.size-1]?=some (bs[bs.size-1]'(by omega)):=Lib.data_getElem? bs _ (by omega)
 generalize bs[bs.size-1]'(by omega)=c at h4 h5
 generalize bs.data.toList=l at hs h5
 refine ⟨l.take (bs.size-1),c,?_,by simp;omega,by simp;omega,h4⟩
 have:=List.take_append_drop (bs.size-1) l
 have hd:l.drop (bs.size-1) = [c]:=by
  have hlt:bs.size-1<l.length:=by omega
  rw[List.drop_eq_getElem_cons hlt]
  rw[List.getElem?_eq_getElem hlt]at h5
  cases h5
  rw[List.drop_eq_nil_of_le (by omega)]
 rw[hd]at this
 exact this.symm
theorem Nj (r:Int) (h1:128<=r) (hv:Utf8.valid r=true) (h2:r≠65533):Fun Tryz.prog G0 249 [.str [47,0],.sc (.int .i32 r)] (.sc (.int .i64 (-1))) 0:=by
 have hlv:Lib.validRune r=true:=by
  have:=validRune_eq r
  rw[hv]at this
  exact this.symm
 obtain ⟨l,c,he,hl1,hl3,hc⟩:=ziA r hv h1
 have ha:0<=r:=by omega
 have hb:¬r<128:=by omega
 have hc0:¬((0:Int)=(c.toNat:Int)):=by omega
 have hix:=Gn [] c
 match l,hl1,hl3 with
 | [x],_,_ =>
  refine Fun.of (fun _=>[]) Tryz.func249 rfl (zi rfl) (by kernel_rfl) ?_;dsimp only[Tryz.f249]
  push_cast -dsimp [ha,hb,h2]
  refine call (YW r) ?_
  push_cast -dsimp [hlv,he]
  refine loop (fun k:Nat=>⟨[(0,.str [47,0]),(1,.sc (.int .i32 r)),(7,.str [x,c]),(8,.sc (.int .i64 1)),(9,.sc (.int .i64 1)),(10,.sc (.int .i64 0))],[],0,0⟩) (fun k=>True) (fun k=>0) 0 trivial ?_ ?_
  ·exact zH.mk [] rfl rfl (Nat.le_refl _) rfl (by push_cast -dsimp [zb,za,CLe,zd]) (by push_cast -dsimp [zb,za,CLe,zd])
  ·intro k _
   push_cast -dsimp [hc0]
   refine kh hix ?_
   have hi0:Lib.indexByte [] c = -1:=rfl
   push_cast -dsimp [hi0]
   exact ⟨[],rfl,rfl,by push_cast -dsimp [zb,za,CLe,zd]⟩
 | [x,y],_,_ =>
  refine Fun.of (fun _=>[]) Tryz.func249 rfl (zi rfl) (by kernel_rfl) ?_;dsimp only[Tryz.f249]
  push_cast -dsimp [ha,hb,h2]
  refine call (YW r) ?_
  push_cast -dsimp [hlv,he]
  refine loop (fun k:Nat=>⟨[(0,.str [47,0]),(9,.sc (.int .i64 2))],[],0,0⟩) (fun k=>True) (fun k=>0) 0 trivial ?_ ?_
  ·exact zH.mk [] rfl rfl (Nat.le_refl _) rfl (by push_cast -dsimp [zb,za,CLe,zd]) (by push_cast -dsimp [zb,za,CLe,zd])
  ·intro k _
   push_cast -dsimp
   exact ⟨[],rfl,rfl,by push_cast -dsimp [zb,za,CLe,zd]⟩
 | [x,y,z],_,_ =>
  refine Fun.of (fun _=>[]) Tryz.func249 rfl (zi rfl) (by kernel_rfl) ?_;dsimp only[Tryz.f249]
  push_cast -dsimp [ha,hb,h2]
  refine call (YW r) ?_
  push_cast -dsimp [hlv,he]
  refine loop (fun k:Nat=>⟨[(0,.str [47,0]),(9,.sc (.int .i64 3))],[],0,0⟩) (fun k=>True) (fun k=>0) 0 trivial ?_ ?_
  ·exact zH.mk [] rfl rfl (Nat.le_refl _) rfl (by push_cast -dsimp [zb,za,CLe,zd]) (by push_cast -dsimp [zb,za,CLe,zd])
  ·intro k _
   push_cast -dsimp
   exact ⟨[],rfl,rfl,by push_cast -dsimp [zb,za,CLe,zd]⟩
theorem Gk (w:World):Calls Tryz.prog 249 #[.string ⟨#[47,0]⟩,.int .i32 65533] w fun e w'=>e = .returned (.int .i64 (-1))/\Below w.heap.size w w':=by
 go_enter Tryz.func249,Tryz.ntmps249
 go_wp2
 go_loopg [5,6] 2 (fun g _ _ wx=>∃ i:Nat,i+g=2/\wx=w.iter ⟨#[47,0]⟩ i)
 case atStart=>exact ⟨0,by omega,rfl⟩
 case round =>
  obtain ⟨i,hig,rfl⟩:=hrel
  cases gk with
  | zero =>
   obtain rfl:i=2:=by omega
   have hnx:=fun ty=>run_next_end (P:=Tryz.prog) w ⟨#[47,0]⟩ 2 ty (by decide)
   go_wp2
   go_ret
   exact ⟨rfl,(Below.refl _ _).alloc (Nat.le_refl _) _⟩
  | succ g =>
   have hi:i<(ByteArray.mk #[47,0]).size:=by show i<2;omega
   have hx128:((ByteArray.mk #[47,0])[i]'hi).toNat<128:=by
    have:i=0∨i=1:=by omega
    rcases this with rfl | rfl
    ·exact (by decide:(47:UInt8).toNat<128)
    ·exact (by decide:(0:UInt8).toNat<128)
   have hnx:=fun ty=>run_next_ascii (P:=Tryz.prog) w ⟨#[47,0]⟩ i ty hi hx128
   have hne:((((ByteArray.mk #[47,0])[i]'hi).toNat:Int)==65533)=false:=by
    rw[beq_eq_false_iff_ne];omega
   go_wp2
   go_roundg g
   case measure=>omega
   case rel=>exact ⟨i+1,by omega,rfl⟩
end
section
open Go.RowKit Go.Shelf
def bad (b:UInt8):Bool:=decide (b=47)||decide (b=0)
theorem Z1 (b:UInt8):[47,0].contains b=bad b:=by simp[bad,List.contains_iff_mem,Bool.eq_iff_iff]
theorem yM {P:Program} {W:World} {b:Nat} {s:ByteArray} {pos:Nat} (hb:W.heap[b]?=some (.stringIter s pos)) (h:pos<s.size) (ty:TypeId) :
  (Instr.next (.pointer (some ⟨b,0,none⟩)) true ty).run P W = .ok (.tuple #[.bool true,.int .i64 pos,.int .i32 (Utf8.decode s pos).1]) (W.putObj b (.stringIter s (pos+(Utf8.decode s pos).2))):=by
 simp only[Instr.next,getObj,setObj,Sem.run_bind,Sem.run,hb,Result.andThen,h,if_true]
 simp[goInt,Sem.run,hb,World.putObj]
theorem Ul {P:Program} {W:World} {b:Nat} {s:ByteArray} {pos:Nat} (hb:W.heap[b]?=some (.stringIter s pos)) (h:¬pos<s.size) (ty:TypeId) :
  (Instr.next (.pointer (some ⟨b,0,none⟩)) true ty).run P W = .ok (.tuple #[.bool false]) W:=by
 simp[Instr.next,getObj,Sem.run,hb,h]
theorem get!_eq (s:ByteArray) (k:Nat) (hk:k<s.size):s.get! k=s[k]'hk:=by
 simp[ByteArray.get!,getElem!_pos,hk];rfl
theorem zhg {c:Nat} (h:c<55296∨(57344<=c/\c<=1114111)):Utf8.valid (c:Int)=true:=by
 unfold Utf8.valid
 rcases h with h | h
 ·have h1:((c:Int)<55296):=by omega
  simp;omega
 ·simp;omega
theorem x0 (s:ByteArray) (i:Nat) (h:i<s.size):(((s[i]'h).toNat<128/\Utf8.decode s i=((s[i]'h).toNat,1))∨(128<=(Utf8.decode s i).1/\Utf8.valid ((Utf8.decode s i).1:Int)=true/\1<=(Utf8.decode s i).2/\i+(Utf8.decode s i).2<=s.size/\∀ j (hj:j<s.size),i<=j->j<i+(Utf8.decode s i).2->128<=(s[j]'hj).toNat)):=by
 by_cases ha:(s[i]'h).toNat<128
 ·exact .inl ⟨ha,decode_ascii s i h ha⟩
 ·refine .inr ?_
  have hb0:¬(s.get! (i+0)).toNat<128:=by rw[Nat.add_zero,get!_eq s i h];exact ha
  have hby:∀ n,(∀ k,k<n->128<=(s.get! (i+k)).toNat)->∀ j (hj:j<s.size),i<=j->j<i+n->128<=(s[j]'hj).toNat:=fun n hn j hj h1 h2=>by
   have:=hn (j-i) (by omega)
   rw[show i+(j-i)=j by omega,get!_eq s j hj]at this
   exact this
  have hone:128<=65533/\Utf8.valid ((65533:Nat):Int)=true/\1<=1/\i+1<=s.size/\∀ j (hj:j<s.size),i<=j->j<i+1->128<=(s[j]'hj).toNat:=
   ⟨by omega,by decide,by omega,by omega,hby 1 fun k hk=>by rw[show k=0 by omega];omega⟩
  unfold Utf8.decode
  simp only[if_neg hb0,Utf8.runeError]
  obtain ⟨b0,hg0⟩:∃ b,(s.get! (i+0)).toNat=b:=⟨_,rfl⟩
  obtain ⟨b1,hg1⟩:∃ b,(s.get! (i+1)).toNat=b:=⟨_,rfl⟩
  obtain ⟨b2,hg2⟩:∃ b,(s.get! (i+2)).toNat=b:=⟨_,rfl⟩
  obtain ⟨b3,hg3⟩:∃ b,(s.get! (i+3)).toNat=b:=⟨_,rfl⟩
  rw[hg0]at hb0
  simp only[hg0,hg1,hg2,hg3]
  have hlt:b0<256:=by rw[←hg0];exact (s.get! (i+0)).toNat_lt
  split
  ·rename_i hc
   simp only[Bool.and_eq_true,beq_iff_eq,decide_eq_true_eq]at hc
   split
   ·rename_i hv
    refine ⟨by show 128<=_;omega,zhg (.inl (by omega)),by show 1<=2;omega,by show i+2<=_;omega,hby 2 fun k hk=>?_⟩
    rcases (show k=0∨k=1 by omega) with rfl | rfl
    ·rw[hg0];omega
    ·rw[hg1];omega
   ·exact hone
  ·split
   ·rename_i hc
    simp only[Bool.and_eq_true,beq_iff_eq,decide_eq_true_eq]at hc
    split
    ·rename_i hv
     simp only[Bool.and_eq_true,decide_eq_true_eq]at hv
     refine ⟨by show 128<=_;omega,hv.2,by show 1<=3;omega,by show i+3<=_;omega,hby 3 fun k hk=>?_⟩
     rcases (show k=0∨k=1∨k=2 by omega) with rfl | rfl | rfl
     ·rw[hg0];omega
     ·rw[hg1];omega
     ·rw[hg2];omega
    ·exact hone
   ·split
    ·rename_i hc
     simp only[Bool.and_eq_true,beq_iff_eq,decide_eq_true_eq]at hc
     split
     ·rename_i hv
      simp only[Bool.and_eq_true,decide_eq_true_eq]at hv
      refine ⟨by show 128<=_;omega,hv.2,by show 1<=4;omega,by show i+4<=_;omega,hby 4 fun k hk=>?_⟩
      rcases (show k=0∨k=1∨k=2∨k=3 by omega) with rfl | rfl | rfl | rfl
      ·rw[hg0];omega
      ·rw[hg1];omega
      ·rw[hg2];omega
      ·rw[hg3];omega
     ·exact hone
    ·exact hone
theorem HZ (r:Int) (h1:128<=r) (hv:Utf8.valid r=true) (w:World):Calls Tryz.prog 249 #[.string ⟨#[47,0]⟩,.int .i32 r] w fun e w'=>e = .returned (.int .i64 (-1))/\Below w.heap.size w w':=by
 by_cases h2:r=65533
 ·subst h2;exact Gk w
 ·refine ((Nj r h1 hv h2).2 ⟨w,fun _ _=>False,fun _=>False⟩ [.string ⟨#[47,0]⟩,.int .i32 r] (fun g cs h=>by cases h) ?_).mono ?_
  ·exact ze.2 ⟨_,_,rfl,zU.2 rfl,ze.2 ⟨_,_,rfl,zo.2 rfl,zj.2 rfl⟩⟩
  ·rintro e w' ⟨v,R',L',rfl,rfl,hst,hr⟩
   rw[zo]at hr
   exact ⟨by rw[hr],hst.below⟩
theorem zc5 (w:World) (s:ByteArray):(w.iter s 0).heap[w.heap.size]?=some (.stringIter s 0):=World.iter_heap w s 0
theorem xF {w W:World} {s:ByteArray} {p:Nat} (hb:Below w.heap.size w W) (hs:W.heap[w.heap.size]?=some (.stringIter s p)) (p':Nat):Below w.heap.size w (W.putObj w.heap.size (.stringIter s p'))/\(W.putObj w.heap.size (.stringIter s p')).heap[w.heap.size]?=some (.stringIter s p'):=
 ⟨⟨hb.os,hb.tape,hb.output,by simpa using hb.size,fun k hk=>(World.putObj_heap_other (by omega)).trans (hb.block k hk)⟩,World.putObj_heap_same (z7 hs)⟩
theorem zap {w W W':World} {s:ByteArray} {p:Nat} (hb:Below w.heap.size w W) (hs:W.heap[w.heap.size]?=some (.stringIter s p)) (h:Below W.heap.size W W'):Below w.heap.size w W'/\W'.heap[w.heap.size]?=some (.stringIter s p):=
 ⟨hb.trans (h.mono hb.size),(h.block _ (z7 hs)).trans hs⟩
theorem U0 (s:ByteArray) (w:World) (h8:s.size<=8):Calls Tryz.prog 250 #[.string s,.string ⟨#[47,0]⟩] w fun e w'=>e = .returned (.int .i64 (Lib.indexAny s.data.toList [47,0]))/\Below w.heap.size w w':=by
 have h8z:decide ((8:Int)<(s.size:Int))=false:=decide_eq_false (by omega)
 have hsi:=zc5 w s
 have hbi:Below w.heap.size w (w.iter s 0):=(Below.refl _ _).alloc (Nat.le_refl _) _
 have HI:Aside ((w.iter s 0).heap[w.heap.size]?=some (.stringIter s 0)/\Below w.heap.size w (w.iter s 0)):=⟨hsi,hbi⟩
 clear hsi hbi
 go_enter Tryz.func250,Tryz.ntmps250
 go_wp2_with (go_at_call 262;refine (Tryz.strings_shouldUseASCIISet _ _).mono ?_;rintro e w' ⟨rfl,hw⟩;rw[hw,h8z])
 go_loopg [9,10] s.size (fun g _ _ wx=>∃ i:Nat,i+g=s.size/\wx.heap[w.heap.size]?=some (.stringIter s i)/\Below w.heap.size w wx/\Lib.NoAny s.data.toList [47,0] i)
 case atStart=>exact ⟨0,by omega,HI.out.1,HI.out.2,Lib.NoAny.zero _ _⟩
 case round =>
  obtain ⟨i,hig,hs,hbl,hno⟩:=hrel
  have HN:Aside (Lib.NoAny s.data.toList [47,0] i/\wr.heap[w.heap.size]?=some (.stringIter s i)/\Below w.heap.size w wr):=⟨hno,hs,hbl⟩
  cases gk with
  | zero =>
   obtain rfl:i=s.size:=by omega
   have hnx:=fun ty=>Ul (P:=Tryz.prog) hs (by omega) ty
   clear hno hs hbl
   go_wp2
   go_ret
   exact ⟨by rw[Lib.indexAny_none (by rw[←Lib.size_eq];exact HN.out.1)];rfl,HN.out.2.2⟩
  | succ g =>
   have hi:i<s.size:=by omega
   have hnx:=fun ty=>yM (P:=Tryz.prog) hs hi ty
   have hpi:=xF hbl hs (i+(Utf8.decode s i).2)
   have HP:Aside (Below w.heap.size w (wr.putObj w.heap.size (.stringIter s (i+(Utf8.decode s i).2)))/\(wr.putObj w.heap.size (.stringIter s (i+(Utf8.decode s i).2))).heap[w.heap.size]?=some (.stringIter s (i+(Utf8.decode s i).2))):=hpi
   clear hno hs hbl hpi
   obtain ⟨x,hx⟩:∃ x:UInt8,s[i]'hi=x:=⟨_,rfl⟩
   have hxl:s.data.toList[i]?=some x:=by rw[←hx];exact Lib.data_getElem? s i hi
   rcases x0 s i hi with ⟨hd1,hd2⟩ | ⟨hd1,hd2,hd3,hd4,hd5⟩
   ·rw[hx]at hd1 hd2
    rw[hd2]at hnx HP
    have Hx:Aside (s.data.toList[i]?=some x):=hxl
    clear hxl hx hd2
    have hcon:=Lib.contains_iff_indexByte [47,0] x
    have hback:((x.toNat:Int)).toNat.toUInt8=x:=by simp
    cases hin:([47,0]:List UInt8).contains x
    ·rw[hin]at hcon
     have hlt:¬((0:Int)<=Lib.indexByte [47,0] x):=of_decide_eq_false hcon.symm
     clear hcon
     go_wp2_with (go_at_call 249;refine (Tryz.strings_IndexRune_ascii _ _ _ (by omega) (by omega)).mono ?_;rintro e w' ⟨rfl,hw⟩;rw[hw,hback])
     go_roundg g
     case measure=>omega
     case rel=>exact ⟨i+1,by omega,HP.out.2,HP.out.1,HN.out.1.succ Hx.out hin⟩
    ·rw[hin]at hcon
     have hge:(0:Int)<=Lib.indexByte [47,0] x:=of_decide_eq_true hcon.symm
     clear hcon
     go_wp2_with (go_at_call 249;refine (Tryz.strings_IndexRune_ascii _ _ _ (by omega) (by omega)).mono ?_;rintro e w' ⟨rfl,hw⟩;rw[hw,hback])
     go_ret
     exact ⟨by rw[Lib.indexAny_hit HN.out.1 Hx.out hin];rfl,HP.out.1⟩
   ·obtain ⟨c,hc⟩:∃ c,(Utf8.decode s i).1=c:=⟨_,rfl⟩
    obtain ⟨n,hn⟩:∃ n,(Utf8.decode s i).2=n:=⟨_,rfl⟩
    rw[hc,hn]at hnx
    rw[hn]at HP hd3 hd4 hd5
    rw[hc]at hd1 hd2
    have H5:Aside (∀ j (hj:j<s.size),i<=j->j<i+n->128<=(s[j]'hj).toNat):=hd5
    have H2:Aside (Utf8.valid (c:Int)=true):=hd2
    clear hd5 hd2 hxl hx hc hn
    go_wp2_with (go_at_call 249;refine (HZ _ (by omega) H2.out _).mono ?_;rintro e w' ⟨rfl,hw⟩;have HW:=zap HP.out.1 HP.out.2 hw)
    go_roundg (s.size-(i+n))
    case measure=>omega
    case rel =>
     refine ⟨i+n,by omega,HW.2,HW.1,fun j b hj hb=>?_⟩
     rcases Nat.lt_or_ge j i with g | g
     ·exact HN.out.1 j b g hb
     ·have hjs:j<s.size:=by omega
      have:=H5.out j hjs g hj
      have hb2:=Lib.data_getElem? s j hjs
      rw[hb]at hb2
      have hb3:b=s[j]'hjs:=Option.some.inj hb2
      rw[Z1,hb3]
      have h47:s[j]'hjs≠47:=fun e=>by rw[e]at this;revert this;decide
      have h00:s[j]'hjs≠0:=fun e=>by rw[e]at this;revert this;decide
      simp[bad,h47,h00]
end
section
open Go.RowKit Go.Shelf
theorem kM (w:World):(zeroValue 223).run Tryz.prog w = .ok (.agg (Array.replicate 256 (.bool false))) w:=by kernel_rfl
theorem Z4:∀ l:List UInt8,decide (0<=Lib.indexAny l [47,0])=l.any bad
 | []=>rfl
 | b :: l=>by
  have ih:=Z4 l
  have hg:=Lib.indexAny_ge [47,0] l
  unfold Lib.indexAny
  rw[Z1,List.any_cons]
  cases hb:bad b with
  | true=>simp
  | false =>
   simp only[Bool.false_eq_true,if_false,Bool.false_or,←ih]
   split
   ·rename_i h
    have:=beq_iff_eq.1 h
    first | rw[this];done | (rw[this];rfl)
   ·rename_i h
    have h':Lib.indexAny l [47,0]≠-1:=by simpa using h
    rw[decide_eq_decide];omega
theorem Ns (l:List UInt8) (hl:l.length<=1000000):Fun Tryz.prog G0 250 [.str l,.str [47,0]] (.sc (.int .i64 (Lib.indexAny l [47,0]))) 0:=by
 refine Fun.wrap (by kernel_rfl) fun R vs h=>?_
 obtain ⟨v1,us1,rfl,h1,h⟩:=ze.1 h
 obtain ⟨v2,us2,rfl,h2,h⟩:=ze.1 h
 rw[zj]at h
 subst h
 rw[zU]at h1 h2
 subst h1 h2
 have hsz:(ByteArray.mk l.toArray).size=l.length:=by simp[ByteArray.size]
 by_cases h8:l.length<=8
 ·refine (U0 ⟨l.toArray⟩ R.w (by omega)).mono ?_
  rintro e w' ⟨rfl,hb⟩
  exact ⟨_,rfl,hb,fun R' _=>zo.2 (by simp)⟩
 ·refine (Tryz.strings_IndexAny_long kM ⟨l.toArray⟩ ⟨#[47,0]⟩ R.w (by decide) (by omega) (by omega) (by decide) ?_).mono ?_
  ·intro j b hb
   have:b=47∨b=0:=by
    have:=List.mem_of_getElem? hb
    simpa using this
   rcases this with rfl | rfl<;>decide
  ·rintro e w' ⟨rfl,rfl⟩
   exact ⟨_,rfl,((Below.refl _ _).alloc (Nat.le_refl _) _).alloc (by simp) _,fun R' _=>zo.2 (by simp)⟩
theorem J5 (l:List UInt8) (hl:l.length<=1000000):Fun Tryz.prog G0 227 [.str l,.str [47,0]] (qD (l.any bad)) 0:=by
 have h:=Z4 l
 refine Fun.of (fun _=>[]) Tryz.func227 rfl (zi rfl) (by kernel_rfl) ?_;dsimp only[Tryz.f227]
 push_cast -dsimp
 refine call (Ns l hl) ?_
 push_cast -dsimp
 exact ⟨[],rfl,rfl,by push_cast -dsimp [zb,za,CLe,zd,h]⟩
def may (l:List UInt8):Bool:=!decide (l = [])&&decide (l.length<=255)&&!l.any bad&&!decide (l = [46])&&!decide (l = [46,46])
theorem zfG (l:List UInt8) (hl:l.length<=1000000):Fun Tryz.prog G0 198 [.str l] (qD (may l)) 0:=by
 by_cases h1:l = []
 ·refine Fun.of (fun _=>[]) Tryz.func198 rfl (zi rfl) (by kernel_rfl) ?_;dsimp only[Tryz.f198]
  push_cast -dsimp [h1]
  exact ⟨[],rfl,rfl,by push_cast -dsimp [zb,za,CLe,zd];simp[may]⟩
 ·by_cases h2:l.length<=255
  ·have h2':(l.length:Int)<=255:=by omega
   cases h3:l.any bad with
   | true =>
    refine Fun.of (fun _=>[]) Tryz.func198 rfl (zi rfl) (by kernel_rfl) ?_;dsimp only[Tryz.f198]
    push_cast -dsimp [h1,h2']
    refine call (J5 l hl) ?_
    push_cast -dsimp [h3]
    exact ⟨[],rfl,rfl,by push_cast -dsimp [zb,za,CLe,zd];simp[may,h3]⟩
   | false =>
    by_cases h4:l = [46]
    ·subst h4
     refine Fun.of (fun _=>[]) Tryz.func198 rfl (zi rfl) (by kernel_rfl) ?_;dsimp only[Tryz.f198]
     push_cast -dsimp [h2']
     refine call (J5 _ hl) ?_
     push_cast -dsimp [h3]
     exact ⟨[],rfl,rfl,by push_cast -dsimp [zb,za,CLe,zd];simp[may]⟩
    ·refine Fun.of (fun _=>[]) Tryz.func198 rfl (zi rfl) (by kernel_rfl) ?_;dsimp only[Tryz.f198]
     push_cast -dsimp [h1,h2']
     refine call (J5 l hl) ?_
     push_cast -dsimp [h3,h4]
     exact ⟨[],rfl,rfl,by push_cast -dsimp [zb,za,CLe,zd];simp[may,h1,h2,h3,h4]⟩
  ·have h2':¬(l.length:Int)<=255:=by omega
   refine Fun.of (fun _=>[]) Tryz.func198 rfl (zi rfl) (by kernel_rfl) ?_;dsimp only[Tryz.f198]
   push_cast -dsimp [h1,h2']
   exact ⟨[],rfl,rfl,by push_cast -dsimp [zb,za,CLe,zd];simp[may,h2]⟩
theorem zae (l:List UInt8) (hl:l.length<=1000000):Fun Tryz.prog G0 197 [.str l] (qD (!may l)) 0:=by
 refine Fun.of (fun _=>[]) Tryz.func197 rfl (zi rfl) (by kernel_rfl) ?_;dsimp only[Tryz.f197]
 push_cast -dsimp
 refine call (zfG l hl) ?_
 push_cast -dsimp
 exact ⟨[],rfl,rfl,by push_cast -dsimp [zb,za,CLe,zd]⟩
end
section
open Go.RowKit
def zd5 (xs:List (List UInt8)):Int:=match xs.findIdx? (fun x=>!may x) with | some i=>(i:Int) | none=>-1
theorem zig (xs:List (List UInt8)):decide (0<=zd5 xs) = !xs.all may:=by
 unfold zd5
 cases h:xs.findIdx? (fun x=>!may x) with
 | none =>
  have:=List.findIdx?_eq_none_iff.1 h
  have h2:xs.all may=true:=List.all_eq_true.2 fun x hx=>by simpa using this x hx
  rw[h2];rfl
 | some i =>
  have h1:=List.findIdx?_eq_some_iff_getElem.1 h
  obtain ⟨hi,hp,_⟩:=h1
  have h2:xs.all may=false:=List.all_eq_false.2 ⟨xs[i],List.getElem_mem hi,by simpa using hp⟩
  rw[h2];simp
theorem HE (xs:List (List UInt8)) (hx:xs.length<=1000001) (hl:∀ x∈xs,x.length<=1000000):Fun Tryz.prog G0 226 [.sl 1 (qZ xs),.clo (.func 197) [] []] (.sc (.int .i64 (zd5 xs))) 0:=by
 refine Fun.of (fun _=>[]) Tryz.func226 rfl (zi rfl) (by kernel_rfl) ?_;dsimp only[Tryz.f226]
 push_cast -dsimp
 refine loop (fun k:Nat=>⟨[(0,.sl 1 (qZ xs)),(1,.clo (.func 197) [] []),(7,.sc (.int .i64 (xs.length:Int))),(8,.sc (.int .i64 k))],[],0,0⟩) (fun k=>k<=xs.length/\∀ j (hj:j<xs.length),j<k->may (xs[j]'hj)=true) (fun k=>xs.length-k) 0 ⟨Nat.zero_le _,fun j _ hj=>by omega⟩ ?_ ?_
 ·exact zH.mk [] rfl rfl (Nat.le_refl _) rfl (by push_cast -dsimp [zb,za,CLe,zd]) (by push_cast -dsimp [zb,za,CLe,zd])
 ·intro k hk
  have hk1:=hk.1
  have hk2:=hk.2
  by_cases h:k<xs.length
  ·have hg:(qZ xs)[k]?=some [.str (xs[k]'h)]:=by rw[strs_get?,List.getElem?_eq_getElem h];rfl
   push_cast -dsimp [h,hg]
   refine ⟨by omega,?_⟩
   refine call (zae (xs[k]'h) (hl _ (List.getElem_mem h))) ?_
   push_cast -dsimp
   cases hm:may (xs[k]'h) with
   | true =>
    push_cast -dsimp
    refine ⟨by omega,k+1,⟨by omega,fun j hj hjk=>?_⟩,by omega,zH.mk [] rfl rfl (Nat.le_refl _) rfl (by push_cast -dsimp [zb,za,CLe,zd]) (by push_cast -dsimp [zb,za,CLe,zd])⟩
    rcases Nat.lt_or_ge j k with g | g
    ·exact hk2 j hj g
    ·have:j=k:=by omega
     subst this;exact hm
   | false =>
    push_cast -dsimp
    refine ⟨[],rfl,rfl,?_⟩
    push_cast -dsimp [zb,za,CLe,zd]
    have:xs.findIdx? (fun x=>!may x)=some k:=List.findIdx?_eq_some_iff_getElem.2 ⟨h,by simp[hm],fun j hj=>by simp[hk2 j (by omega) hj]⟩
    simp[zd5,this]
  ·push_cast -dsimp [h]
   refine ⟨[],rfl,rfl,?_⟩
   push_cast -dsimp [zb,za,CLe,zd]
   have:xs.findIdx? (fun x=>!may x)=none:=List.findIdx?_eq_none_iff.2 fun x hx=>by
    obtain ⟨j,hj,rfl⟩:=List.getElem_of_mem hx
    simp[hk2 j hj (by omega)]
   simp[zd5,this]
theorem Vu (xs:List (List UInt8)) (hx:xs.length<=1000001) (hl:∀ x∈xs,x.length<=1000000):Fun Tryz.prog G0 196 [.sl 1 (qZ xs),.clo (.func 197) [] []] (qD (!xs.all may)) 0:=by
 have h:=zig xs
 refine Fun.of (fun _=>[]) Tryz.func196 rfl (zi rfl) (by kernel_rfl) ?_;dsimp only[Tryz.f196]
 push_cast -dsimp
 refine call (HE xs hx hl) ?_
 push_cast -dsimp
 exact ⟨[],rfl,rfl,by push_cast -dsimp [zb,za,CLe,zd,h]⟩
def Yk (p:List UInt8):Bool:=decide (q9 (zJ p)=p)&&(zJ p).all may
def Yl (p:List UInt8):C:=.tup [.own 0 9 1 (qZ (if Yk p then zJ p else [])),qD (Yk p)]
theorem Jb (x y:List UInt8) (r:List (List UInt8)) (sep:List UInt8):Lib.join (x :: y :: r) sep=x++sep++Lib.join (y :: r) sep:=by
 simp[Lib.join,List.intercalate,List.intersperse]
theorem XY:∀ xs:List (List UInt8),xs≠[]->(Lib.join xs [47]).length+1=(xs.map fun x=>x.length+1).sum
 | [],h=>absurd rfl h
 | [x],_=>by simp[Lib.join]
 | x :: y :: r,_=>by
  have ih:=XY (y :: r) (by simp)
  rw[Jb]
  simp only[List.length_append,List.length_cons,List.length_nil,List.map_cons,List.sum_cons]at ih ⊢
  omega
theorem ze6:∀ l:List UInt8,((Jc l).map fun x=>x.length+1).sum=l.length+1
 | []=>rfl
 | b :: l=>by
  have ih:=ze6 l
  unfold Jc
  split
  ·simp only[List.map_cons,List.sum_cons,List.length_nil,List.length_cons,ih];omega
  ·cases h:Jc l with
   | nil=>exact absurd h (Nc l)
   | cons x r =>
    rw[h]at ih
    simp only[List.map_cons,List.sum_cons,List.length_cons]at ih ⊢
    omega
theorem kL (f:List UInt8->Bool):∀ xs:List (List UInt8),((xs.filter f).map fun x=>x.length+1).sum<=(xs.map fun x=>x.length+1).sum
 | []=>by simp
 | x :: r=>by
  have ih:=kL f r
  rw[List.filter_cons]
  split
  ·simp only[List.map_cons,List.sum_cons];omega
  ·simp only[List.map_cons,List.sum_cons];omega
theorem zdg:∀ (xs:List (List UInt8)) (x:List UInt8),x∈xs->x.length+1<=(xs.map fun x=>x.length+1).sum
 | y :: r,x,h=>by
  simp only[List.map_cons,List.sum_cons]
  rcases List.mem_cons.1 h with rfl | h
  ·omega
  ·have:=zdg r x h;omega
theorem NJ (l:List UInt8):(Lib.join (zJ l) [47]).length<=l.length/\∀ x∈zJ l,x.length<=l.length:=by
 have h1:=ze6 l
 have h2:=kL (fun x=>!decide (x = [])) (Jc l)
 rw[←J4]at h2
 refine ⟨?_,fun x hx=>?_⟩
 ·by_cases h:zJ l = []
  ·rw[h];simp[Lib.join]
  ·have:=XY (zJ l) h;omega
 ·have:=zdg (zJ l) x hx;omega
theorem G5 (p:List UInt8) (hp:p.length<=1000000):Fun Tryz.prog G0 163 [.str p] (Yl p) 1:=by
 have hz:=j6 p
 have hj:=NJ p
 by_cases h1:q9 (zJ p)=p
 ·have h1':(p=q9 (zJ p)):=h1.symm
  refine Fun.of (fun _=>[]) Tryz.func163 rfl (zi rfl) (by kernel_rfl) ?_;dsimp only[Tryz.f163]
  push_cast -dsimp
  refine call (ZI p) ?_
  push_cast -dsimp
  refine call (Xx p hp) ?_
  push_cast -dsimp
  refine call (Xu (zJ p) (by omega) (by omega)) ?_
  push_cast -dsimp [h1]
  refine call (Vu (zJ p) (by omega) fun x hx=>by have:=hj.2 x hx;omega) ?_
  push_cast -dsimp
  cases hm:(zJ p).all may with
  | true =>
   push_cast -dsimp
   exact ⟨[.inl 0],rfl,rfl,by simp only[Yl,Yk,h1,hm];push_cast -dsimp [zb,za,CLe,zd]<;>simp⟩
  | false =>
   push_cast -dsimp
   exact ⟨[.inr (9,1)],rfl,rfl,by simp only[Yl,Yk,h1,hm];push_cast -dsimp [zb,za,CLe,zd]<;>simp⟩
 ·refine Fun.of (fun _=>[]) Tryz.func163 rfl (zi rfl) (by kernel_rfl) ?_;dsimp only[Tryz.f163]
  push_cast -dsimp
  refine call (ZI p) ?_
  push_cast -dsimp
  refine call (Xx p hp) ?_
  push_cast -dsimp
  refine call (Xu (zJ p) (by omega) (by omega)) ?_
  push_cast -dsimp [h1]
  exact ⟨[.inr (9,1)],rfl,rfl,by simp only[Yl,Yk,h1];push_cast -dsimp [zb,za,CLe,zd]<;>simp⟩
end
section
open Go.RowKit
theorem Ma (xs:List (List UInt8)) (k:Nat) (x:List UInt8) (h:xs[k]?=some x):Lib.join (xs.take (k+1)) [47]=(if k=0 then x else Lib.join (xs.take k) [47]++[47]++x):=by
 cases xs with
 | nil=>simp at h
 | cons y r =>
  cases k with
  | zero=>simp at h;subst h;simp[Lib.join_one]
  | succ k =>
   simp only[List.take_succ_cons,Nat.succ_ne_zero,if_false]
   rw[Lib.join_cons,Lib.join_cons,Lib.joinTail_take_succ _ _ _ x (by simpa using h)]
   simp[List.append_assoc]
theorem zlW (xs:List (List UInt8)) (k:Nat):(Lib.join (xs.take k) [47]).length<=(Lib.join xs [47]).length:=by
 by_cases h:xs.take k = []
 ·rw[h];simp[Lib.join]
 ·have h1:=XY (xs.take k) h
  have hx:xs≠[]:=fun e=>h (by rw[e];simp)
  have h2:=XY xs hx
  have h3:((xs.take k).map fun x=>x.length+1).sum<=(xs.map fun x=>x.length+1).sum:=by
   conv=>rhs;rw[←List.take_append_drop k xs,List.map_append,List.sum_append]
   omega
  omega
theorem uD (xs:List (List UInt8)) (k:Nat) (x:List UInt8) (h:xs[k]?=some x):(if xs.take (k+1) = [] then [] else q9 (xs.take (k+1)))=(if xs.take k = [] then [] else q9 (xs.take k))++[47]++x:=by
 have hk:k<xs.length:=(List.getElem?_eq_some_iff.1 h).1
 have h1:xs.take (k+1)≠[]:=fun e=>by have:=congrArg List.length e;rw[List.length_take]at this;simp only[List.length_nil]at this;omega
 rw[if_neg h1]
 unfold q9
 rw[if_neg h1,Ma xs k x h]
 by_cases hk0:k=0
 ·subst hk0;simp
 ·have h2:xs.take k≠[]:=fun e=>by have:=congrArg List.length e;rw[List.length_take]at this;simp only[List.length_nil]at this;omega
  simp[h2,hk0]
def jst (xs:List (List UInt8)) (k:Nat):List UInt8:=if xs.take k = [] then [] else q9 (xs.take k)
theorem ze3 (xs:List (List UInt8)) (k:Nat):(jst xs k).length<=(Lib.join xs [47]).length+1:=by
 unfold jst
 split
 ·simp
 ·rename_i h
  have:=zlW xs k
  unfold q9
  rw[if_neg h]
  simp;omega
theorem yc (xs:List (List UInt8)) (hx:xs.length<=1000001) (hl:(Lib.join xs [47]).length<=100000000):Fun Tryz.prog G0 162 [.sl 1 (qZ xs)] (.str (q9 xs)) 0:=by
 by_cases h0:xs = []
 ·subst h0
  refine Fun.of (fun _=>[]) Tryz.func162 rfl (zi rfl) (by kernel_rfl) ?_;dsimp only[Tryz.f162]
  push_cast -dsimp
  exact ⟨[],rfl,rfl,by push_cast -dsimp [zb,za,CLe,zd]<;>simp[q9]⟩
 ·have h0':¬((xs.length:Int)=0):=by have:=List.length_pos_iff.2 h0;omega
  refine Fun.of (fun _=>[]) Tryz.func162 rfl (zi rfl) (by kernel_rfl) ?_;dsimp only[Tryz.f162]
  push_cast -dsimp [h0']
  refine loop (fun k:Nat=>⟨[(0,.sl 1 (qZ xs)),(3,.str (jst xs k)),(4,.sc (.int .i64 k))],[],0,0⟩) (fun k=>k<=xs.length) (fun k=>xs.length-k) 0 (Nat.zero_le _) ?_ ?_
  ·exact zH.mk [] rfl rfl (Nat.zero_le _) rfl (by push_cast -dsimp [zb,za,CLe,zd]<;>simp[jst]) (by push_cast -dsimp [zb,za,CLe,zd])
  ·intro k hk
   by_cases h:k<xs.length
   ·have hg:=ZM xs k h
    have hst:jst xs (k+1)=jst xs k++[47]++xs[k]'h:=uD xs k (xs[k]'h) (List.getElem?_eq_getElem h)
    have hjk:=ze3 xs k
    have hjl:=ze3 xs (k+1)
    rw[hst]at hjl
    simp only[List.length_append,List.length_cons,List.length_nil]at hjl
    push_cast -dsimp [h,hg]
    (try simp only[lS]);repeat refine And.intro (by omega) ?_
    refine ⟨k+1,by omega,by omega,zH.mk [] rfl rfl (Nat.zero_le _) rfl ?_ (by push_cast -dsimp [zb,za,CLe,zd])⟩
    push_cast -dsimp [zb,za,CLe,zd]
    simp[hst]
   ·have hkl:k=xs.length:=by omega
    push_cast -dsimp [h]
    exact ⟨[],rfl,rfl,by push_cast -dsimp [zb,za,CLe,zd]<;>simp[jst,hkl,h0]⟩
theorem ZC (l:List UInt8) (hl:l.length<=1000000):Fun Tryz.prog G0 16 [.str l] (qD (may l)) 0:=by
 refine Fun.of (fun _=>[]) Tryz.func16 rfl (zi rfl) (by kernel_rfl) ?_;dsimp only[Tryz.f16]
 push_cast -dsimp
 refine loop (fun k:Nat=>⟨[(0,.str l),(3,.sc (.int .i64 k))],[],0,0⟩) (fun k=>k<=l.length/\∀ j (hj:j<l.length),j<k->bad (l[j]'hj)=false) (fun k=>l.length-k) 0 ⟨Nat.zero_le _,fun j _ hj=>by omega⟩ ?_ ?_
 ·exact zH.mk [] rfl rfl (Nat.zero_le _) rfl (by push_cast -dsimp [zb,za,CLe,zd]) (by push_cast -dsimp [zb,za,CLe,zd])
 ·intro k hk
  have hk1:=hk.1
  have hk2:=hk.2
  by_cases h:k<l.length
  ·have hb:l[k]?=some (l[k]'h):=List.getElem?_eq_getElem h
   have hbad:bad (l[k]'h)=true->may l=false:=fun hb=>by
    have:l.any bad=true:=List.any_eq_true.2 ⟨l[k]'h,List.getElem_mem h,hb⟩
    simp[may,this]
   by_cases h47:l[k]'h=47
   ·have h1:(((l[k]'h).toNat:Int)=47):=by rw[h47];rfl
    push_cast -dsimp [h,hb,h1]
    refine ⟨by omega,[],rfl,rfl,?_⟩
    push_cast -dsimp [zb,za,CLe,zd]
    rw[hbad (by simp[bad,h47])]
   ·have h1:¬(((l[k]'h).toNat:Int)=47):=zh7 h47
    by_cases h00:l[k]'h=0
    ·have h2:(((l[k]'h).toNat:Int)=0):=by rw[h00];rfl
     push_cast -dsimp [h,hb,h1,h2]
     refine ⟨by omega,by omega,[],rfl,rfl,?_⟩
     push_cast -dsimp [zb,za,CLe,zd]
     rw[hbad (by simp[bad,h00])]
    ·have h2:¬(((l[k]'h).toNat:Int)=0):=zh7 h00
     push_cast -dsimp [h,hb,h1,h2]
     (try simp only[lS]);repeat refine And.intro (by omega) ?_
     refine ⟨k+1,⟨by omega,fun j hj hjk=>?_⟩,by omega,zH.mk [] rfl rfl (Nat.zero_le _) rfl (by push_cast -dsimp [zb,za,CLe,zd]) (by push_cast -dsimp [zb,za,CLe,zd])⟩
     rcases Nat.lt_or_ge j k with g | g
     ·exact hk2 j hj g
     ·have:j=k:=by omega
      subst this
      simp[bad,h47,h00]
  ·have hany:l.any bad=false:=List.any_eq_false.2 fun x hx=>by
    obtain ⟨j,hj,rfl⟩:=List.getElem_of_mem hx
    simp[hk2 j hj (by omega)]
   obtain rfl:k=l.length:=by omega
   by_cases h0:l = []
   ·subst h0
    push_cast -dsimp
    exact ⟨[],rfl,rfl,by push_cast -dsimp [zb,za,CLe,zd]<;>simp[may]⟩
   ·have h1:(1:Int)<=(l.length:Int):=by have:=List.length_pos_iff.2 h0;omega
    by_cases h2:(l.length:Int)<=255
    ·have h2':l.length<=255:=by omega
     by_cases h4:l = [46]
     ·subst h4
      push_cast -dsimp
      exact ⟨[],rfl,rfl,by push_cast -dsimp [zb,za,CLe,zd]<;>simp[may]⟩
     ·by_cases h5:l = [46,46]
      ·subst h5
       push_cast -dsimp [h4]
       exact ⟨[],rfl,rfl,by push_cast -dsimp [zb,za,CLe,zd]<;>simp[may]⟩
      ·push_cast -dsimp [h,h1,h2,h4,h5]
       exact ⟨[],rfl,rfl,by push_cast -dsimp [zb,za,CLe,zd]<;>simp[may,h0,h2',hany,h4,h5]⟩
    ·have h2':¬l.length<=255:=by omega
     push_cast -dsimp [h,h1,h2]
     exact ⟨[],rfl,rfl,by push_cast -dsimp [zb,za,CLe,zd]<;>simp[may,h2']⟩
def Yo (p q:List UInt8):Bool:=decide ((zJ p).take (zJ q).length=zJ q)
theorem Vj (p q:List UInt8) (hp:p.length<=100000) (hq:q.length<=100000):Fun Tryz.prog G0 85 [.str p,.str q] (qD (Yo p q)) 0:=by
 have hn:=V0 p hp
 have hm:=V0 q hq
 have hs:=j6 p
 have ht:=j6 q
 by_cases h:(zJ p).length<(zJ q).length
 ·refine Fun.of (fun _=>[]) Tryz.func85 rfl (zi rfl) (by kernel_rfl) ?_;dsimp only[Tryz.f85]
  push_cast -dsimp
  refine call hn ?_
  push_cast -dsimp
  refine call hm ?_
  push_cast -dsimp [h]
  refine ⟨[],rfl,rfl,?_⟩
  push_cast -dsimp [zb,za,CLe,zd]
  have:¬(zJ p).take (zJ q).length=zJ q:=fun e=>by have:=congrArg List.length e;rw[List.length_take]at this;omega
  simp[Yo,this]
 ·refine Fun.of (fun _=>[]) Tryz.func85 rfl (zi rfl) (by kernel_rfl) ?_;dsimp only[Tryz.f85]
  push_cast -dsimp
  refine call hn ?_
  push_cast -dsimp
  refine call hm ?_
  push_cast -dsimp [h]
  refine loop (fun k:Nat=>⟨[(5,.own 0 9 1 (qZ (zJ p))),(6,.own 1 9 1 (qZ (zJ q))),(7,.sc (.int .i64 k))],[],2,0⟩) (fun k=>k<=(zJ q).length/\(zJ p).take k=(zJ q).take k) (fun k=>(zJ q).length-k) 0 ⟨Nat.zero_le _,rfl⟩ ?_ ?_
  ·exact zH.mk [.inl 0,.inl 1] rfl rfl (Nat.zero_le _) rfl (by push_cast -dsimp [zb,za,CLe,zd]) (by push_cast -dsimp [zb,za,CLe,zd])
  ·intro k hk
   have hk1:=hk.1
   have hk2:=hk.2
   by_cases h3:k<(zJ q).length
   ·have hg1:=ZM (zJ p) k (by omega)
    have hg2:=ZM (zJ q) k h3
    by_cases he:(zJ p)[k]'(by omega)=(zJ q)[k]'h3
    ·push_cast -dsimp [h3,hg1,hg2,he]
     (try simp only[lS]);repeat refine And.intro (by omega) ?_
     refine ⟨k+1,⟨by omega,?_⟩,by omega,zH.mk [.inl 0,.inl 1] rfl rfl (Nat.zero_le _) rfl (by push_cast -dsimp [zb,za,CLe,zd]) (by push_cast -dsimp [zb,za,CLe,zd])⟩
     rw[List.take_add_one,List.take_add_one,hk2,List.getElem?_eq_getElem h3,List.getElem?_eq_getElem (by omega:k<(zJ p).length),he]
    ·push_cast -dsimp [h3,hg1,hg2,he]
     (try simp only[lS]);repeat refine And.intro (by omega) ?_
     refine ⟨[],rfl,rfl,?_⟩
     push_cast -dsimp [zb,za,CLe,zd]
     have:¬(zJ p).take (zJ q).length=zJ q:=fun e=>he (by
      have:=congrArg (·[k]?) e
      simp only[List.getElem?_take,if_pos h3]at this
      rw[List.getElem?_eq_getElem (by omega),List.getElem?_eq_getElem h3]at this
      exact Option.some.inj this)
     simp[Yo,this]
   ·have hkl:k=(zJ q).length:=by omega
    push_cast -dsimp [h3]
    refine ⟨[],rfl,rfl,?_⟩
    push_cast -dsimp [zb,za,CLe,zd]
    rw[hkl,List.take_length]at hk2
    simp[Yo,hk2]
theorem Z0 (p:List UInt8) (hp:p.length<=100000):Fun Tryz.prog G0 124 [.str p] (Yl p) 1:=by
 have hn:=V0 p hp
 have hs:=j6 p
 have hj:=NJ p
 refine Fun.of (fun _=>[]) Tryz.func124 rfl (zi rfl) (by kernel_rfl) ?_;dsimp only[Tryz.f124]
 push_cast -dsimp
 refine call hn ?_
 push_cast -dsimp
 refine loop (fun k:Nat=>⟨[(0,.str p),(4,.own 0 9 1 (qZ (zJ p))),(5,.sc (.int .i64 k))],[],1,0⟩) (fun k=>k<=(zJ p).length/\∀ j (hj:j<(zJ p).length),j<k->may ((zJ p)[j]'hj)=true) (fun k=>(zJ p).length-k) 0 ⟨Nat.zero_le _,fun j _ hj=>by omega⟩ ?_ ?_
 ·exact zH.mk [.inl 0] rfl rfl (Nat.zero_le _) rfl (by push_cast -dsimp [zb,za,CLe,zd]) (by push_cast -dsimp [zb,za,CLe,zd])
 ·intro k hk
  have hk1:=hk.1
  have hk2:=hk.2
  by_cases h:k<(zJ p).length
  ·have hg:=ZM (zJ p) k h
   have hlen:=hj.2 ((zJ p)[k]'h) (List.getElem_mem h)
   push_cast -dsimp [h,hg]
   refine ⟨by omega,?_⟩
   refine call (ZC ((zJ p)[k]'h) (by omega)) ?_
   push_cast -dsimp
   cases hm:may ((zJ p)[k]'h) with
   | true =>
    push_cast -dsimp
    (try simp only[lS]);repeat refine And.intro (by omega) ?_
    refine ⟨k+1,⟨by omega,fun j hj hjk=>?_⟩,by omega,zH.mk [.inl 0] rfl rfl (Nat.zero_le _) rfl (by push_cast -dsimp [zb,za,CLe,zd]) (by push_cast -dsimp [zb,za,CLe,zd])⟩
    rcases Nat.lt_or_ge j k with g | g
    ·exact hk2 j hj g
    ·have:j=k:=by omega
     subst this;exact hm
   | false =>
    have hall:(zJ p).all may=false:=List.all_eq_false.2 ⟨(zJ p)[k]'h,List.getElem_mem h,by simp[hm]⟩
    push_cast -dsimp
    exact ⟨[.inr (9,1)],rfl,rfl,by simp only[Yl,Yk,hall];push_cast -dsimp [zb,za,CLe,zd]<;>simp⟩
  ·have hall:(zJ p).all may=true:=List.all_eq_true.2 fun x hx=>by
    obtain ⟨j,hj,rfl⟩:=List.getElem_of_mem hx
    exact hk2 j hj (by omega)
   push_cast -dsimp [h]
   refine call (yc (zJ p) (by omega) (by omega)) ?_
   push_cast -dsimp
   by_cases h1:q9 (zJ p)=p
   ·push_cast -dsimp [h1]
    exact ⟨[.inl 0],rfl,rfl,by simp only[Yl,Yk,h1,hall];push_cast -dsimp [zb,za,CLe,zd]<;>simp⟩
   ·push_cast -dsimp [h1]
    exact ⟨[.inr (9,1)],rfl,rfl,by simp only[Yl,Yk,h1];push_cast -dsimp [zb,za,CLe,zd]<;>simp⟩
end
section
open Go.RowKit
def Uu (x:List UInt8):Prop:=x≠[]/\(47:UInt8)∉x
theorem zb4:∀ a t:List UInt8,Jc (a++47 :: t)=Jc a++Jc t
 | [],t=>by
  have:Jc (47 :: t) = [] :: Jc t:=rfl
  exact this
 | b :: a,t=>by
  have ih:=zb4 a t
  have e1:Jc (b :: (a++47 :: t))=if b=47 then [] :: Jc (a++47 :: t) else match Jc (a++47 :: t) with
   | []=>[[b]]
   | x :: r=>(b :: x) :: r:=rfl
  have e2:Jc (b :: a)=if b=47 then [] :: Jc a else match Jc a with
   | []=>[[b]]
   | x :: r=>(b :: x) :: r:=rfl
  rw[List.cons_append,e1,e2,ih]
  by_cases hb:b=47
  ·simp[hb]
  ·rw[if_neg hb,if_neg hb]
   have hne:=Nc a
   cases hs:Jc a with
   | nil=>exact absurd hs hne
   | cons x r=>simp
theorem zfu:∀ x:List UInt8,(47:UInt8)∉x->Jc x = [x]
 | [],_=>rfl
 | b :: x,h=>by
  have hb:¬(b=47):=fun e=>h (by rw[e];exact List.mem_cons_self)
  have ih:=zfu x (fun hx=>h (List.mem_cons_of_mem _ hx))
  unfold Jc
  rw[if_neg hb,ih]
theorem zbP:∀ (l x:List UInt8),x∈Jc l->(47:UInt8)∉x
 | [],x,h=>by simp[Jc]at h;subst h;simp
 | b :: l,x,h=>by
  have ih:=zbP l
  unfold Jc at h
  by_cases hb:b=47
  ·rw[if_pos hb]at h
   rcases List.mem_cons.1 h with rfl | h
   ·simp
   ·exact ih x h
  ·rw[if_neg hb]at h
   have hne:=Nc l
   cases hs:Jc l with
   | nil=>exact absurd hs hne
   | cons y r =>
    rw[hs]at h ih
    simp only at h
    rcases List.mem_cons.1 h with rfl | h
    ·intro hm
     rcases List.mem_cons.1 hm with e | hm
     ·exact hb e.symm
     ·exact ih y List.mem_cons_self hm
    ·exact ih x (List.mem_cons_of_mem _ h)
theorem G8 {l x:List UInt8} (h:x∈zJ l):Uu x:=by
 rw[J4,List.mem_filter]at h
 exact ⟨by simpa using h.2,zbP l x h.1⟩
theorem Ux (a t:List UInt8):zJ (a++47 :: t)=zJ a++zJ t:=by
 rw[J4,J4,J4,zb4,List.filter_append]
theorem Nz {x:List UInt8} (h:Uu x):zJ x = [x]:=by
 rw[J4,zfu x h.2]
 simp[h.1]
theorem xV (l:List UInt8):zJ (47 :: l)=zJ l:=Ux [] l
theorem Ha:∀ xs:List (List UInt8),(∀ x∈xs,Uu x)->zJ (Lib.join xs [47])=xs
 | [],_=>rfl
 | [x],h=>by rw[Lib.join_one];exact Nz (h x List.mem_cons_self)
 | x :: y :: r,h=>by
  have ih:=Ha (y :: r) fun z hz=>h z (List.mem_cons_of_mem _ hz)
  rw[Jb,List.append_assoc]
  show zJ (x++47 :: Lib.join (y :: r) [47])=_
  rw[Ux,ih,Nz (h x List.mem_cons_self)]
  rfl
theorem Ql (xs:List (List UInt8)) (h:∀ x∈xs,Uu x):zJ (q9 xs)=xs:=by
 unfold q9
 by_cases hx:xs = []
 ·rw[if_pos hx,hx];rfl
 ·rw[if_neg hx,xV,Ha xs h]
theorem vo {x:List UInt8} (h:may x=true):Uu x:=by
 simp only[may,Bool.and_eq_true,Bool.not_eq_true',decide_eq_false_iff_not]at h
 refine ⟨h.1.1.1.1,fun hm=>?_⟩
 have:=List.any_eq_false.1 h.1.1.2 47 hm
 exact this (by decide)
theorem zcV (xs zs:List (List UInt8)) (hx:xs≠[]) (hz:zs≠[]):q9 (xs++zs)=q9 xs++47 :: Lib.join zs [47]:=by
 unfold q9
 rw[if_neg hx,if_neg (by simp[hx])]
 simp only[List.cons_append,List.cons.injEq,true_and]
 induction xs with
 | nil=>exact absurd rfl hx
 | cons x r ih =>
  cases r with
  | nil =>
   cases zs with
   | nil=>exact absurd rfl hz
   | cons z zs=>simp only[List.cons_append,List.nil_append];rw[Jb,Lib.join_one];simp
  | cons y r =>
   have:=ih (by simp)
   simp only[List.cons_append]at this ⊢
   rw[Jb,Jb,this]
   simp
theorem M3 (xs ys:List (List UInt8)) (hx:∀ x∈xs,Uu x) (hy:∀ y∈ys,Uu y):Xf (q9 xs) (q9 ys)=decide (xs.take ys.length=ys):=by
 have nx:=Ql xs hx
 have ny:=Ql ys hy
 rw[Bool.eq_iff_iff]
 simp only[decide_eq_true_eq,Xf,Bool.or_eq_true]
 constructor
 ·rintro ((h | h) | h)
  ·have:xs=ys:=by rw[←nx,←ny,h]
   rw[this,List.take_length]
  ·have:ys = []:=by rw[←ny,h];rfl
   rw[this];rfl
  ·unfold Lib.hasPrefix at h
   obtain ⟨t,ht⟩:=List.isPrefixOf_iff_prefix.1 h
   have:xs=ys++zJ t:=by
    rw[←nx,←ht,List.append_assoc]
    show zJ (q9 ys++47 :: t)=_
    rw[Ux,ny]
   rw[this,List.take_left]
 ·intro h
  have e:xs=ys++xs.drop ys.length:=by
   conv=>lhs;rw[←List.take_append_drop ys.length xs,h]
  by_cases hys:ys = []
  ·exact .inl (.inr (by rw[hys];rfl))
  ·by_cases hd:xs.drop ys.length = []
   ·refine .inl (.inl ?_)
    rw[hd,List.append_nil]at e
    rw[e]
   ·refine .inr ?_
    rw[e,zcV _ _ hys hd]
    unfold Lib.hasPrefix
    refine List.isPrefixOf_iff_prefix.2 ⟨Lib.join (xs.drop ys.length) [47],?_⟩
    simp
theorem UA {p:List UInt8} (h:Yk p=true):q9 (zJ p)=p:=by
 unfold Yk at h
 simp only[Bool.and_eq_true,decide_eq_true_eq]at h
 exact h.1
theorem xn (p q:List UInt8) (hp:Yk p=true) (hq:Yk q=true):Xf p q=Yo p q:=by
 have h:=M3 (zJ p) (zJ q) (fun x hx=>G8 hx) (fun x hx=>G8 hx)
 rw[UA hp,UA hq]at h
 exact h
end
section
open Go.RowKit Go.ChangeMaps Go.ChangeShapes Go.WideShapes Go.Deep Go.Joins
theorem yV (R:Env):Xe G0 R:=fun g cs h=>by cases h
section
variable {H:Type} {enc:TypeId×Value->H} {W:World}
end
end
section
open Go.RowKit
mutual
/-- the cells that read as a datum of Yk data -/
def ZD:DataW Unit->Option (List Value)
 | .lit (.int k n)=>some [.int k n]
 | .lit (.bool b)=>some [.bool b]
 | .lit (.string l)=>some [.string ⟨l.toArray⟩]
 | .agg ds=>Uv ds
 | _=>none
def Uv:List (DataW Unit)->Option (List Value)
 | []=>some []
 | d :: ds=>match ZD d,Uv ds with
  | some a,some b=>some (a++b)
  | _,_=>none
end
def Mm (P:Program):Nat->List Field->Nat->Bool
 | j,[],n=>j==n
 | j,f :: fs,n=>f.offset==j&&Mm P (j+P.cellsOf f.type) fs n
def UP (P:Program):Nat->TypeId->Bool
 | 0,_=>false
 | m+1,t=>match P.underlying t with
  | some .bool=>true
  | some (.int _)=>true
  | some .string=>true
  | some (.struct fs)=>Mm P 0 fs.toList (P.cellsOf t)&&fs.toList.all fun f=>UP P m f.type
  | some (.array n e)=>UP P m e&&P.cellsOf t==n*P.cellsOf e
  | _=>false
section
variable {enc:TypeId×Value->Unit} {P:Program} {w:World} {base:Nat} {spare:Nat->Bool} {held:Bool}
theorem VR {d:DataW Unit} {ds:List (DataW Unit)} {a b:List Value} (h1:ZD d=some a) (h2:Uv ds=some b):Uv (d :: ds)=some (a++b):=by
 rw[Uv,h1,h2]
theorem QC {n:Nat} {cs:List Value} (ih:∀ t cs d p,UP P n t=true->DataW.trod enc P w base spare held n t cs=some (d,p)->ZD d=some cs) {m:Nat} (hm:∀ t cs d p,UP P m t=true->DataW.trod enc P w base spare held n t cs=some (d,p)->ZD d=some cs) :
  ∀ (fs:List Field) (j N:Nat) (xs:List (DataW Unit×List MemPlace)),Mm P j fs N=true->(fs.all fun f=>UP P m f.type)=true->cs.length=N->xs.length=fs.length ->
   (∀ (i:Nat) (f:Field),fs[i]?=some f->DataW.trod enc P w base spare held n f.type ((cs.drop f.offset).take (P.cellsOf f.type))=xs[i]?)->Uv (xs.map (·.1))=some (cs.drop j)
 | [],j,N,xs,hc,_,hl,hx,_=>by
  simp only[Mm,beq_iff_eq]at hc
  match xs,hx with
  | [],_=>rw[List.drop_of_length_le (by omega)];rfl
 | f :: fs,j,N,xs,hc,ha,hl,hx,hf=>by
  simp only[Mm,Bool.and_eq_true,beq_iff_eq]at hc
  simp only[List.all_cons,Bool.and_eq_true]at ha
  match xs,hx with
  | x :: xs,hx =>
   have h0:=hf 0 f rfl
   have e0:ZD x.1=some ((cs.drop f.offset).take (P.cellsOf f.type)):=hm _ _ _ x.2 ha.1 h0
   have e1:=QC ih hm fs _ N xs hc.2 ha.2 hl (by simpa using hx) fun i g hg=>hf (i+1) g hg
   rw[List.map_cons,VR e0 e1,hc.1,←List.drop_drop,List.take_append_drop]
theorem Vl {n:Nat} {e:TypeId} {cs:List Value}:∀ (N j:Nat) (xs:List (DataW Unit×List MemPlace)),(∀ cs d p,DataW.trod enc P w base spare held n e cs=some (d,p)->ZD d=some cs)->cs.length=(j+N)*P.cellsOf e->xs.length=N ->
   (∀ (i:Nat),i<N->DataW.trod enc P w base spare held n e ((cs.drop ((j+i)*P.cellsOf e)).take (P.cellsOf e))=xs[i]?)->Uv (xs.map (·.1))=some (cs.drop (j*P.cellsOf e))
 | 0,j,xs,_,hl,hx,_=>by
  match xs,hx with
  | [],_=>rw[List.drop_of_length_le (by simp at hl;omega)];rfl
 | N+1,j,xs,hm,hl,hx,hf=>by
  match xs,hx with
  | x :: xs,hx =>
   have e0:=hm _ _ x.2 (hf 0 (Nat.zero_lt_succ _))
   have e1:=Vl N (j+1) xs hm (by rw[hl];congr 1;omega) (by simpa using hx) fun i hi=>by
    have:=hf (i+1) (by omega)
    rw[show j+(i+1)=j+1+i by omega]at this
    exact this
   rw[List.map_cons,VR e0 e1,Nat.add_zero,show (j+1)*P.cellsOf e=j*P.cellsOf e+P.cellsOf e by rw[Nat.add_mul];omega,←List.drop_drop,List.take_append_drop]
theorem XA:∀ (n m:Nat) (t:TypeId) (cs:List Value) (d:DataW Unit) (p:List MemPlace),UP P m t=true->DataW.trod enc P w base spare held n t cs=some (d,p)->ZD d=some cs
 | 0,m,t,cs,d,p,_,h=>by simp[DataW.trod]at h
 | n+1,0,t,cs,d,p,hf,h=>by simp[UP]at hf
 | n+1,m+1,t,cs,d,p,hf,h=>by
  unfold UP at hf
  split at hf
  ·rename_i hu
   obtain ⟨b,rfl,e⟩:=DataW.trod_bool hu h
   cases e;rfl
  ·rename_i k hu
   obtain ⟨b,rfl,e,_⟩:=DataW.trod_int hu h
   cases e;rfl
  ·rename_i hu
   obtain ⟨s,rfl,e,_⟩:=DataW.trod_string hu h
   cases e
   rw[ZD]
  ·rename_i fs hu
   simp only[Bool.and_eq_true]at hf
   obtain ⟨xs,n',hn,e,hl,hx,hg⟩:=DataW.trod_struct hu h
   cases hn;cases e
   have hrec:∀ t cs d p,UP P m t=true->DataW.trod enc P w base spare held n t cs=some (d,p)->ZD d=some cs:=fun t cs d p=>XA n m t cs d p
   have:=QC (n:=n) (fun t cs d p=>XA n n t cs d p) hrec fs.toList 0 _ xs hf.1 hf.2 hl (by rw[hx];rfl) fun i f hif=>hg i f (by simpa using hif)
   rw[List.drop_zero]at this
   rw[ZD,this]
  ·rename_i N e hu
   simp only[Bool.and_eq_true,beq_iff_eq]at hf
   obtain ⟨xs,n',hn,e',hl,hx,hg⟩:=DataW.trod_array hu h
   cases hn;cases e'
   have:=Vl (n:=n) (e:=e) (cs:=cs) N 0 xs (fun cs d p=>XA n m e cs d p hf.1) (by rw[hl,hf.2,Nat.zero_add]) hx fun i hi=>by rw[Nat.zero_add];exact hg i hi
   rw[Nat.zero_mul,List.drop_zero]at this
   rw[ZD,this]
  ·cases hf
end
theorem HJ {W:World} {g:Nat}:∀ (vs:List Value) (o:Nat),(∀ (i:Nat) v,vs[i]?=some v->W.cell? ⟨g,o+i,none⟩=some v)->(vs.all fun v=>v.oneCell')=true->zL (GZ W) (vs.map zA) g o:=fun vs o h ho=>by
 refine z8 fun i c hc=>?_
 rw[List.getElem?_map,Option.map_eq_some_iff]at hc
 obtain ⟨v,hv,rfl⟩:=hc
 exact ⟨v,h i v hv,fun hf=>hf,jh _ _ v,List.all_eq_true.1 ho v (List.mem_of_getElem? hv)⟩
theorem H0 {P:Program} {W:World} {l:List (String×DataW Unit)} (h:laidMetH P l W) (hp:(l.filter fun x=>x.2.handleName?.isSome) = []) {n:String} {d:DataW Unit} (hm:(n,d)∈l) {g:Nat} {t:TypeId} {m:Nat} {vs:List Value}
  (hg:P.globalNamed n=some g) (ht:(P.globals[g]?).map (·.type)=some t) (hf:UP P m t=true) (hd:ZD d=some vs) (ho:(vs.all fun v=>v.oneCell')=true):zL (GZ W) (vs.map zA) g 0:=by
 unfold laidMetH at h
 rw[hp]at h
 obtain ⟨g',t',cs,fuel,p,hg',ht',hvar,htr⟩:=Lib.laidMet.reads h hm
 rw[hg]at hg';cases hg'
 rw[ht]at ht';cases ht'
 have e:=XA _ _ _ _ _ _ hf htr
 have e':vs=cs.toList:=Option.some.inj (hd.symm.trans e)
 subst e'
 refine HJ _ 0 (fun i v hv=>?_) ho
 rw[World.var?_cell hg hvar,Nat.zero_add]
 simpa using hv
theorem Jr {P:Program} {W:World} {l:List (String×DataW Unit)} (h:laidMetH P l W) (hp:(l.filter fun x=>x.2.handleName?.isSome) = []) {n:String} {d:DataW Unit} (hm:(n,d)∈l) {g:Nat} {t:TypeId} {m:Nat} {vs:List Value}
  (hg:P.globalNamed n=some g) (ht:(P.globals[g]?).map (·.type)=some t) (hf:UP P m t=true) (hd:ZD d=some vs) (ho:(vs.all fun v=>v.oneCell')=true) :
  zL (GZ W) (vs.map zA) g 0/\(∃ us ty fl,(GZ W).w.heap[g]?=some (.cells us ty fl)/\us.size=(vs.map zA).length)/\∀ o,¬(GZ W).M g o:=by
 refine ⟨H0 h hp hm hg ht hf hd ho,?_,fun o h=>h⟩
 unfold laidMetH at h
 rw[hp]at h
 obtain ⟨g',t',cs,fuel,p,hg',ht',hvar,htr⟩:=Lib.laidMet.reads h hm
 rw[hg]at hg';cases hg'
 rw[ht]at ht';cases ht'
 have e:=XA _ _ _ _ _ _ hf htr
 have e':vs=cs.toList:=Option.some.inj (hd.symm.trans e)
 subst e'
 unfold World.var? at hvar
 rw[hg]at hvar
 simp only[Option.bind_some]at hvar
 split at hvar
 ·rename_i cs' ty fl hh
  cases hvar
  exact ⟨_,_,_,hh,by simp⟩
 ·cases hvar
theorem Fun.glob {P:Program} {G G':zm} {f:FuncId} {args:List C} {r:C} {n:Nat} (h:Fun P G f args r n) (hG:∀ g cs,G g=some cs->G' g=some cs):Fun P G' f args r n:=
 ⟨h.1,fun R vs hg ha=>h.2 R vs (fun g cs e=>hg g cs (hG g cs e)) ha⟩
theorem Fun.glob0 {P:Program} {G':zm} {f:FuncId} {args:List C} {r:C} {n:Nat} (h:Fun P G0 f args r n):Fun P G' f args r n:=h.glob fun g cs e=>by cases e
end
section
open CA CB
open Go.RowKit
def znk:List Value:=[.bool false,.bool false,.bool false,.bool false,.bool false,.bool false,.bool false,.bool true,.bool false,.bool true,.bool true,.bool false,.bool false,.bool false,.bool true,.bool false,.bool true,.bool false,.bool false,.bool true,.bool false,.bool true,.bool false,.bool false,.bool false,.bool false,.bool false,.bool true,.bool false,.bool false,.bool true,.bool false,.bool false]
def G1:zm:=fun g=>if g=0 then some (znk.map zA) else none
theorem zmv:G1 0=some [.sc (.bool false),.sc (.bool false),.sc (.bool false),.sc (.bool false),.sc (.bool false),.sc (.bool false),.sc (.bool false),.sc (.bool true),.sc (.bool false),.sc (.bool true),.sc (.bool true),.sc (.bool false),.sc (.bool false),.sc (.bool false),.sc (.bool true),.sc (.bool false),.sc (.bool true),.sc (.bool false),.sc (.bool false),.sc (.bool true),.sc (.bool false),.sc (.bool true),.sc (.bool false),.sc (.bool false),.sc (.bool false),.sc (.bool false),.sc (.bool false),.sc (.bool true),.sc (.bool false),.sc (.bool false),.sc (.bool true),.sc (.bool false),.sc (.bool false)]:=rfl
attribute [push_cast] zmv
def zO (p:List UInt8):Bool:=Yk p&&!decide (zJ p = [])
theorem N2 (p:List UInt8) (hp:p.length<=1000000):Fun Tryz.prog G0 133 [.str p] (qD (zO p)) 0:=by
 have h:=G5 p hp
 unfold Yl at h
 cases hb:Yk p with
 | false =>
  rw[hb]at h
  refine Fun.of (fun _=>[]) Tryz.func133 rfl (zi rfl) (by kernel_rfl) ?_;dsimp only[Tryz.f133]
  push_cast -dsimp
  refine cl (h) ?_;push_cast -dsimp
  exact ⟨[],rfl,rfl,by push_cast -dsimp [zb,za,CLe,zd];simp[zO,hb]⟩
 | true =>
  rw[hb,if_pos rfl]at h
  refine Fun.of (fun _=>[]) Tryz.func133 rfl (zi rfl) (by kernel_rfl) ?_;dsimp only[Tryz.f133]
  push_cast -dsimp
  refine cl (h) ?_;push_cast -dsimp
  refine ⟨[],rfl,rfl,?_⟩
  push_cast -dsimp [zb,za,CLe,zd]
  by_cases hn:zJ p = []
  ·simp[zO,hb,hn]
  ·have:=List.length_pos_iff.2 hn
   simp[zO,hb,hn,this]
theorem zbE (l:List UInt8):Fun Tryz.prog G0 186 [.str l,.str [0]] (.sc (.int .i64 (Lib.indexByte l 0))) 0:=by
 refine Fun.wrap (by kernel_rfl) fun R vs h=>?_
 obtain ⟨v1,us1,rfl,h1,h⟩:=ze.1 h
 obtain ⟨v2,us2,rfl,h2,h⟩:=ze.1 h
 rw[zj]at h
 subst h
 rw[zU]at h1 h2
 subst h1 h2
 refine (Tryz.strings_Index_one ⟨l.toArray⟩ 0 R.w).mono ?_
 rintro e w' ⟨rfl,rfl⟩
 exact ⟨_,rfl,Below.refl _ _,fun R' _=>zo.2 (by simp)⟩
theorem kS:∀ l:List UInt8,decide (0<=Lib.indexByte l 0)=l.any (fun b=>decide (b=0))/\-1<=Lib.indexByte l 0
 | []=>⟨rfl,by decide⟩
 | b :: l=>by
  obtain ⟨h1,h2⟩:=kS l
  unfold Lib.indexByte
  by_cases hb:b=0
  ·subst hb;simp
  ·have hb':(b==0)=false:=by simpa using hb
   rw[hb']
   simp only[Bool.false_eq_true,if_false,List.any_cons,hb,decide_false,Bool.false_or,←h1]
   split
   ·rename_i hm
    have:=beq_iff_eq.1 hm
    rw[this];simp
   ·rename_i hm
    have:¬Lib.indexByte l 0 = -1:=fun e=>hm (by rw[e];rfl)
    constructor
    ·rw[decide_eq_decide];omega
    ·omega
theorem Gb (l:List UInt8) (hl:l.length<=1000000):Fun Tryz.prog G0 164 [.str l,.str [0]] (qD (l.any fun b=>decide (b=0))) 0:=by
 have h:=(kS l).1
 refine Fun.of (fun _=>[]) Tryz.func164 rfl (zi rfl) (by kernel_rfl) ?_;dsimp only[Tryz.f164]
 push_cast -dsimp
 refine cl (zbE l) ?_;push_cast -dsimp
 exact ⟨[],rfl,rfl,by push_cast -dsimp [zb,za,CLe,zd,h]⟩
def Y5 (s:List UInt8):Bool:=!decide (s = [])&&decide (s.length<=4095)&&!(s.any fun b=>decide (b=0))
theorem uB (s:List UInt8) (hs:s.length<=1000000):Fun Tryz.prog G0 134 [.str s] (qD (Y5 s)) 0:=by
 have h:=Gb s hs
 by_cases h1:s = []
 ·refine Fun.of (fun _=>[]) Tryz.func134 rfl (zi rfl) (by kernel_rfl) ?_;dsimp only[Tryz.f134]
  push_cast -dsimp [h1]
  exact ⟨[],rfl,rfl,by push_cast -dsimp [zb,za,CLe,zd];simp[Y5,h1]⟩
 ·by_cases h2:s.length<=4095
  ·have h2':(s.length:Int)<=4095:=by omega
   refine Fun.of (fun _=>[]) Tryz.func134 rfl (zi rfl) (by kernel_rfl) ?_;dsimp only[Tryz.f134]
   push_cast -dsimp [h1,h2']
   refine cl (h) ?_;push_cast -dsimp
   exact ⟨[],rfl,rfl,by push_cast -dsimp [zb,za,CLe,zd];simp[Y5,h1,h2]⟩
  ·have h2':¬(s.length:Int)<=4095:=by omega
   refine Fun.of (fun _=>[]) Tryz.func134 rfl (zi rfl) (by kernel_rfl) ?_;dsimp only[Tryz.f134]
   push_cast -dsimp [h1,h2']
   exact ⟨[],rfl,rfl,by push_cast -dsimp [zb,za,CLe,zd];simp[Y5,h1,h2]⟩
end
end Go.Proofs.YtiblepfehggicaaGreatDoor.Vcg
section
namespace Go.Proofs.YtiblepfehggicaaGreatDoor.QuotePlain
abbrev Bs:=List UInt8
def good (c:UInt8):Bool:=decide (32<=c.toNat/\c.toNat<=126/\c.toNat≠34/\c.toNat≠92)
def zjb:Bs:=[48,49,50,51,52,53,54,55,56,57,97,98,99,100,101,102]
def HQ (n:Nat):UInt8:=zjb.getD n 0
def qb (c:UInt8):Bs:=if good c then [c] else [92,120,HQ (c.toNat / 16),HQ (c.toNat % 16)]
def mid (l:Bs):Bs:=l.flatMap qb
def qB (l:Bs):Bs:=34 :: (mid l++[34])
def zow (l:Bs):Bool:=decide (l≠[])&&l.all fun c=>decide (33<=c.toNat/\c.toNat<=126/\c.toNat≠34)
def zl2 (c:UInt8):Nat:=(zjb.findIdx? (·==c)).getD 16
def zhe:Bs->UInt8×Nat
 | []=>(0,0)
 | c :: r =>
  if c≠92 then (if good c then (c,1) else (0,0))
  else match r with
   | x :: a :: b :: _=>if x=120/\zl2 a<16/\zl2 b<16/\good (UInt8.ofNat (zl2 a*16+zl2 b))=false then (UInt8.ofNat (zl2 a*16+zl2 b),4) else (0,0)
   | _=>(0,0)
theorem zc0 {p:UInt8->Bool} (h:(List.range 256).all (fun n=>p (UInt8.ofNat n))=true) (c:UInt8):p c=true:=by
 have h1:=List.all_eq_true.1 h c.toNat (List.mem_range.2 c.toNat_lt)
 simpa using h1
def zmN:Nat->Bs->Option (Bs×Nat)
 | 0,_=>none
 | _+1,[]=>none
 | f+1,c :: r=>if c=34 then some ([],1) else if (zhe (c :: r)).2=0 then none else (zmN f ((c :: r).drop (zhe (c :: r)).2)).map fun x=>((zhe (c :: r)).1 :: x.1,(zhe (c :: r)).2+x.2)
def body (l:Bs):Option (Bs×Nat):=zmN (l.length+1) l
def qtd:Bs->Option (Bs×Nat)
 | []=>none
 | c :: r=>if c=34 then (body r).map fun x=>(x.1,x.2+1) else none
def unq (l:Bs):Option Bs:=match qtd l with | some (t,n)=>if n=l.length then some t else none | none=>none
end Go.Proofs.YtiblepfehggicaaGreatDoor.QuotePlain
end
section
namespace Go.Proofs.YtiblepfehggicaaGreatDoor.QuotePlain
def okw (w:Bs):Bool:=(unq w).isSome||zow w
def cut:Bs->Bs->Bool->Option (List Bs)
 | [],w,_=>if okw w then some [w] else none
 | c :: r,w,i=>if c=32/\i=false then (if okw w then (cut r [] i).map (w :: ·) else none) else cut r (w++[c]) (if c=34 then !i else i)
end Go.Proofs.YtiblepfehggicaaGreatDoor.QuotePlain
end
section
namespace Go.Proofs.YtiblepfehggicaaGreatDoor.QuotePlain
def F (q:List Bs):Bs:=q.flatMap (·++[32])
end Go.Proofs.YtiblepfehggicaaGreatDoor.QuotePlain
end
namespace Go.Proofs.YtiblepfehggicaaGreatDoor.Vcg
section
structure OpV where
 kind:Int
 slot:Int
 a:List UInt8
 b:List UInt8
 d:List UInt8
deriving DecidableEq,Inhabited
def Zs (k:Int):Bool:=decide (k=3)||decide (k=7)||decide (k=9)||decide (k=10)
def zeI (k:Int):Bool:=decide (k=2)||decide (k=3)||decide (k=5)||decide (k=6)
end
section
open CA CB
open Go.RowKit
def opL (o:OpV):List C:=[.sc (.int .i64 o.kind),.sc (.int .i64 o.slot),.str o.a,.str o.b,.str o.d]
def Vn (o:OpV):Bool:=decide (1<=o.kind)&&decide (o.kind<=10)&&zO o.a&&(if Zs o.kind then decide (1<=o.slot)&&decide (o.slot<=1073741824) else decide (o.slot=0))&&(if zeI o.kind then zO o.b else decide (o.b = []))
 && (if o.kind=4 then Y5 o.d else decide (o.d = []))&&(!decide (o.kind=6)||(!Xf o.a o.b&&!Xf o.b o.a))
def short (o:OpV):Prop:=o.a.length<=100000/\o.b.length<=100000/\o.d.length<=100000
theorem Js (k s:Int) (a b d:List UInt8) (hs:short ⟨k,s,a,b,d⟩):Fun Tryz.prog G1 98 [.agg (opL ⟨k,s,a,b,d⟩)] (qD (Vn ⟨k,s,a,b,d⟩)) 0:=by
 have hs1:a.length<=100000:=hs.1
 have hs2:b.length<=100000:=hs.2.1
 have hs3:d.length<=100000:=hs.2.2
 have h1:=(N2 a (by omega)).glob0 (G':=G1)
 have h2:=(N2 b (by omega)).glob0 (G':=G1)
 have h3:=(uB d (by omega)).glob0 (G':=G1)
 have h4:=(Hf a b (by omega)).glob0 (G':=G1)
 have h5:=(Hf b a (by omega)).glob0 (G':=G1)
 unfold opL
 by_cases hk1:k<1
 ·have:¬1<=k:=by omega
  refine Fun.of (fun _=>[]) Tryz.func98 rfl (zi rfl) (by kernel_rfl) ?_;dsimp only[Tryz.f98]
  push_cast -dsimp [hk1]
  exact ⟨[],rfl,rfl,by push_cast -dsimp [zb,za,CLe,zd];simp[Vn,this]⟩
 by_cases hk2:10<k
 ·have:¬k<=10:=by omega
  refine Fun.of (fun _=>[]) Tryz.func98 rfl (zi rfl) (by kernel_rfl) ?_;dsimp only[Tryz.f98]
  push_cast -dsimp [hk1,hk2]
  exact ⟨[],rfl,rfl,by push_cast -dsimp [zb,za,CLe,zd];simp[Vn,this]⟩
 cases hp:zO a with
 | false =>
  rw[hp]at h1
  refine Fun.of (fun _=>[]) Tryz.func98 rfl (zi rfl) (by kernel_rfl) ?_;dsimp only[Tryz.f98]
  push_cast -dsimp [hk1,hk2]
  refine cl (h1) ?_;push_cast -dsimp
  exact ⟨[],rfl,rfl,by push_cast -dsimp [zb,za,CLe,zd];simp[Vn,hp]⟩
 | true =>
  rw[hp]at h1
  have hk:k=1∨k=2∨k=3∨k=4∨k=5∨k=6∨k=7∨k=8∨k=9∨k=10:=by omega
  clear hk1 hk2 hs hs1 hs2 hs3
  rcases hk with rfl | rfl | rfl | rfl | rfl | rfl | rfl | rfl | rfl | rfl
  all_goals
   refine Fun.of (fun _=>[]) Tryz.func98 rfl (zi rfl) (by kernel_rfl) ?_;dsimp only[Tryz.f98]
   push_cast -dsimp
   refine cl (h1) ?_;push_cast -dsimp
   repeat' (first
    | (refine call h2 ?_;push_cast -dsimp)
    | (refine kh h2 ?_;push_cast -dsimp)
    | (refine call h3 ?_;push_cast -dsimp)
    | (refine kh h3 ?_;push_cast -dsimp)
    | (refine call h4 ?_;push_cast -dsimp)
    | (refine kh h4 ?_;push_cast -dsimp)
    | (refine call h5 ?_;push_cast -dsimp)
    | (refine kh h5 ?_;push_cast -dsimp)
    | (refine br (fun h=>?_) (fun h=>?_)<;>push_cast -dsimp [h])
    | (refine ⟨[],rfl,rfl,?_⟩;push_cast -dsimp [zb,za,CLe,zd];clear h1 h2 h3 h4 h5;simp_all [Vn,Zs,zeI]<;>omega))
end
section
structure qM where
 dir:Int
 name:List UInt8
 ino:Int
deriving DecidableEq,Inhabited
structure zN where
 slot:Int
 ino:Int
 content:Bool
 data:List UInt8
deriving DecidableEq,Inhabited
structure qv where
 fs:FsV
 kept:List zN
 pool:List zy
deriving DecidableEq,Inhabited
def Qr:qM:=⟨0,[],0⟩
def zeq:zN:=⟨0,0,false,[]⟩
abbrev JA (es:List zZ):Prop:=qF js zZ.name es
def VG (n:List UInt8) (es:List zZ):Bool:=JO zZ.name n es
def jN (n:List UInt8) (es:List zZ):Int:=match Ji zZ.name n es with | some e=>e.ino | none=>0
def zh (n:List UInt8) (es:List zZ):List zZ:=JE zZ.name n es
def zY (n:List UInt8) (i:Int) (es:List zZ):List zZ:=Xa js zZ.name ⟨n,i⟩ (JE zZ.name n es)
def atW (xs:List zy):List (List UInt8)->qM->qM×Int
 | [],s=>(s,0)
 | n :: r,s=>if s.ino=0 then (Qr,1) else if (zg s.ino xs).kind≠2 then (Qr,3) else atW xs r ⟨(zg s.ino xs).ino,n,jN n (zg s.ino xs).es⟩
def atV (f:FsV) (p:List UInt8):qM×Int:=if Yk p then atW f.xs (zJ p) ⟨0,[],1⟩ else (Qr,9)
def Jl (f:FsV) (n b:Int):Bool:=decide (f.xs.length+n<=f.maxI)&&decide (ja f.xs+b<=f.maxB)
def qK (d:Int) (es:List zZ->List zZ) (xs:List zy):List zy:=qH { zg d xs with es:=es (zg d xs).es } xs
def zab (f:FsV) (s:qM) (k:Int) (t:List UInt8):FsV:={ f with next:=f.next+1,xs:=qH ⟨f.next,k,1,t,if k=2 then s.dir else 0,[]⟩ (qK s.dir (zY s.name f.next) f.xs) }
def Zj (f:FsV) (s:qM) (k:Int) (t:List UInt8):FsV×Int:=
 if may s.name then (if Jl f 1 (if k=1 then (t.length:Int) else 0) then (zab f s k t,0) else (f,8)) else (f,9)
def zR (f:FsV) (s:qM):FsV:=
 if (zg s.ino f.xs).links-1=0 then { f with xs:=qk s.ino (qK s.dir (zh s.name) f.xs) }
 else { f with xs:=qH { zg s.ino f.xs with links:=(zg s.ino f.xs).links-1 } (qK s.dir (zh s.name) f.xs) }
def Uw (f:FsV) (s:qM) (i:Int):FsV:={ f with xs:=qH { zg i f.xs with links:=(zg i f.xs).links+1 } (qK s.dir (zY s.name i) f.xs) }
def QD (f:FsV) (a b:qM):FsV:=
 let g:=qK b.dir (zY b.name a.ino) (qK a.dir (zh a.name) f.xs)
 if (zg a.ino g).kind=2 then { f with xs:=qH { zg a.ino g with parent:=b.dir } g } else { f with xs:=g }
def xJ (f:FsV) (i:Int) (t:List UInt8):FsV:={ f with xs:=qH { zg i f.xs with data:=t } f.xs }
def Ye (f:FsV) (i:Int) (t:List UInt8):FsV×Int:=
 if Jl f 0 ((t.length:Int)-(zg i f.xs).data.length) then (xJ f i t,0) else (f,8)
def UV (n:Int) (ks:List zN):Bool:=JO zN.slot n ks
def qu (k:zN) (ks:List zN):List zN:=Xa jD zN.slot k ks
def JM (w:qv) (n:Int) (s:qM):qv×Int:=
 if UV n w.kept then (w,13)
 else (⟨zR w.fs s,qu ⟨n,s.ino,false,[]⟩ w.kept,if (zg s.ino w.fs.xs).links=1 then qH { zg s.ino w.fs.xs with links:=0,parent:=0 } w.pool else w.pool⟩,0)
def zV (w:qv) (n i:Int):qv×Int:=
 if UV n w.kept then (w,13) else ({ w with kept:=qu ⟨n,i,true,(zg i w.fs.xs).data⟩ w.kept },0)
def isV (f:FsV) (p:List UInt8) (want:Bool):qM×zy×Int:=
 let a:=atV f p
 (a.1,zg a.1.ino f.xs,if a.2≠0 then a.2 else if want&&!zF a.1.ino f.xs then 1 else if !want&&zF a.1.ino f.xs then 2 else 0)
def zM (f:FsV) (p:List UInt8):zy×Int:=
 let a:=isV f p true
 (a.2.1,if a.2.2≠0 then a.2.2 else if a.2.1.kind=2 then 4 else if a.2.1.kind=3 then 9 else 0)
def Je (w:qv) (p:List UInt8) (k:Int) (t:List UInt8):qv×Int:=
 if (isV w.fs p false).2.2≠0 then (w,(isV w.fs p false).2.2) else ({ w with fs:=(Zj w.fs (isV w.fs p false).1 k t).1 },(Zj w.fs (isV w.fs p false).1 k t).2)
def j4 (w:qv) (o:OpV):qv×Int:=
 if (zM w.fs o.a).2≠0 then (w,(zM w.fs o.a).2) else Je w o.b 1 (zM w.fs o.a).1.data
def zT (w:qv) (o:OpV):qv×Int:=
 if (zM w.fs o.a).2≠0 then (w,(zM w.fs o.a).2)
 else if (zM w.fs o.b).2≠0 then (w,(zM w.fs o.b).2)
 else if (zM w.fs o.a).1.ino=(zM w.fs o.b).1.ino then (w,9)
 else if (zV w o.slot (zM w.fs o.b).1.ino).2≠0 then (w,(zV w o.slot (zM w.fs o.b).1.ino).2)
 else if (Ye w.fs (zM w.fs o.b).1.ino (zM w.fs o.a).1.data).2≠0 then (w,(Ye w.fs (zM w.fs o.b).1.ino (zM w.fs o.a).1.data).2)
 else ({ (zV w o.slot (zM w.fs o.b).1.ino).1 with fs:=(Ye w.fs (zM w.fs o.b).1.ino (zM w.fs o.a).1.data).1 },0)
def qJ (w:qv) (o:OpV):qv×Int:=
 let a:=isV w.fs o.a true
 if a.2.2≠0 then (w,a.2.2) else if a.2.1.kind=2 then (w,11)
 else if (isV w.fs o.b false).2.2≠0 then (w,(isV w.fs o.b false).2.2)
 else ({ w with fs:=Uw w.fs (isV w.fs o.b false).1 a.2.1.ino },0)
def Jf (w:qv) (o:OpV):qv×Int:=
 if (isV w.fs o.a true).2.2≠0 then (w,(isV w.fs o.a true).2.2)
 else if (isV w.fs o.b false).2.2≠0 then (w,(isV w.fs o.b false).2.2)
 else ({ w with fs:=QD w.fs (isV w.fs o.a true).1 (isV w.fs o.b false).1 },0)
def qt (w:qv) (o:OpV):qv×Int:=
 let a:=isV w.fs o.a true
 if a.2.2≠0 then (w,a.2.2) else if a.2.1.es≠[] then (w,5) else JM w o.slot a.1
def doV (w:qv) (o:OpV):qv×Int:=
 if !Vn o then (w,12)
 else if o.kind=1 then Je w o.a 2 []
 else if o.kind=2 then j4 w o
 else if o.kind=3 then zT w o
 else if o.kind=4 then Je w o.a 3 o.d
 else if o.kind=5 then qJ w o
 else if o.kind=6 then Jf w o
 else qt w o
def jQ (ks:List zN):Int:=match ks.getLast? with | some k=>k.slot | none=>0
structure jo where
 w:qv
 ops:List OpV
 diags:List (List UInt8)
 status:Int
 slot:Int
deriving DecidableEq,Inhabited
def zdS (w:qv):jo:=⟨w,[],[],0,jQ w.kept⟩
def YP (d:jo) (o:OpV):OpV:={ o with slot:=if o.kind=3∨o.kind=7 then d.slot+1 else 0 }
def Yj (d:jo) (o:OpV):jo×Int:=
 if 7<o.kind then (d,12)
 else if (doV d.w (YP d o)).2≠0 then (d,(doV d.w (YP d o)).2)
 else (⟨(doV d.w (YP d o)).1,d.ops++[YP d o],d.diags,d.status,if 0<(YP d o).slot then (YP d o).slot else d.slot⟩,0)
end
section
open CA CB
open Go.RowKit
theorem zbe (a b:List UInt8):Fun Tryz.prog G0 253 [.str a,.str b] (.sc (.int .i64 (Lib.compareBytes a b))) 0:=by
 refine Fun.wrap (by kernel_rfl) fun R vs h=>?_
 obtain ⟨v1,us1,rfl,h1,h⟩:=ze.1 h
 obtain ⟨v2,us2,rfl,h2,h⟩:=ze.1 h
 rw[zj]at h
 subst h
 rw[zU]at h1 h2
 subst h1 h2
 refine (Tryz.strings_Compare ⟨a.toArray⟩ ⟨b.toArray⟩ R.w).mono ?_
 rintro e w' ⟨rfl,rfl⟩
 exact ⟨_,rfl,Below.refl _ _,fun R' _=>zo.2 (by simp)⟩
section
variable {G:zm}
theorem vy (e:zZ) (n:List UInt8):Fun Tryz.prog G 252 [.agg (Gz e),.str n] (.sc (.int .i64 (Lib.compareBytes e.name n))) 0:=by
 have h:=(zbe e.name n).glob0 (G':=G)
 refine Fun.of (fun _=>[]) Tryz.func252 rfl (zi rfl) (by kernel_rfl) ?_;dsimp only[Tryz.f252]
 push_cast -dsimp
 refine cl (h) ?_;push_cast -dsimp
 exact ⟨[],rfl,rfl,by push_cast -dsimp [zb,za,CLe,zd]⟩
theorem NF (es:List zZ) (n:List UInt8) (hl:es.length<=100000) (hR:qF js zZ.name es) :
  Fun Tryz.prog G 251 [.sl 2 (zG es),.str n,.clo (.func 252) [] []] (.tup [.sc (.int .i64 (ql js zZ.name n es:Nat)),.sc (.bool (JO zZ.name n es))]) 0:=by
 refine Fun.of (fun _=>[]) Tryz.func251 rfl (zi rfl) (by kernel_rfl) ?_;dsimp only[Tryz.f251]
 push_cast -dsimp
 refine loop (fun p:Nat×Nat=>⟨[(0,.sl 2 (zG es)),(1,.str n),(2,.clo (.func 252) [] []),(8,.sc (.int .i64 (es.length:Nat))),(9,.sc (.int .i64 p.1)),(10,.sc (.int .i64 p.2))],[],0,0⟩)
  (fun p=>p.1<=p.2/\p.2<=es.length/\(∀ t (h:t<es.length),t<p.1->(js).lt (zZ.name es[t]) n=true)/\∀ t (h:t<es.length),p.2<=t->(js).lt (zZ.name es[t]) n=false) (fun p=>p.2-p.1) (0,es.length) ⟨Nat.zero_le _,Nat.le_refl _,fun t _ h=>by (simp at h),fun t h h'=>by (dsimp only at h';omega)⟩ ?_ ?_
 ·exact zH.mk [] rfl rfl (Nat.le_refl _) rfl (by push_cast -dsimp [zb,za,CLe,zd,List.length_map]) (by push_cast -dsimp [zb,za,CLe,zd])
 ·rintro ⟨i,j⟩ ⟨h1,h2,h3,h4⟩
  dsimp only at h1 h2 h3 h4 ⊢
  by_cases h:i<j
  ·obtain ⟨m,hm⟩:∃ m,m=(i+j) / 2:=⟨_,rfl⟩
   have hmi:((i:Int)+(j:Int)) / 2=(m:Int):=by omega
   have hml:m<es.length:=by omega
   have hat:=j0 es m hml
   have hlt:=(zfa es[m].name n).to_iff
   push_cast -dsimp [h,hmi,hat]
   (try simp only[lS]);repeat refine And.intro (by omega) ?_
   refine cl ((vy es[m] n)) ?_;push_cast -dsimp
   cases hc:(js).lt (zZ.name es[m]) n with
   | true =>
    have hcv:(Lib.compareBytes es[m].name n<0)=True:=eq_true (hlt.mpr hc)
    push_cast -dsimp [hcv]
    (try simp only[lS]);repeat refine And.intro (by omega) ?_
    refine ⟨(m+1,j),⟨by omega,h2,fun t ht hlt2=>?_,h4⟩,by dsimp only;omega,zH.mk [] rfl rfl (Nat.le_refl _) rfl (by push_cast -dsimp [zb,za,CLe,zd]) (by push_cast -dsimp [zb,za,CLe,zd])⟩
    dsimp only at hlt2
    rcases Nat.lt_or_ge t m with q | q
    ·exact (js).tr ((List.pairwise_iff_getElem.1 hR) t m ht hml q) hc
    ·have:t=m:=by omega
     subst this;exact hc
   | false =>
    have hcv:(Lib.compareBytes es[m].name n<0)=False:=eq_false (fun e=>by have h7:(js).lt (zZ.name es[m]) n=true:=hlt.mp e;rw[hc]at h7;cases h7)
    push_cast -dsimp [hcv]
    (try simp only[lS]);repeat refine And.intro (by omega) ?_
    refine ⟨(i,m),⟨by omega,by omega,h3,fun t ht hge=>?_⟩,by dsimp only;omega,zH.mk [] rfl rfl (Nat.le_refl _) rfl (by push_cast -dsimp [zb,za,CLe,zd]) (by push_cast -dsimp [zb,za,CLe,zd])⟩
    dsimp only at hge
    rcases Nat.lt_or_ge m t with q | q
    ·cases h9:(js).lt (zZ.name es[t]) n with
     | false=>rfl
     | true=>have:=(js).tr ((List.pairwise_iff_getElem.1 hR) m t hml ht q) h9;rw[hc]at this;cases this
    ·have:t=m:=by omega
     subst this;exact hc
  ·have hij:i=j:=by omega
   subst hij
   have hrk:=Qx (o:=js) (key:=zZ.name) n es i h2 h3 h4
   push_cast -dsimp [h]
   refine br (fun hx=>?_) (fun hx=>?_)
   ·have hx:i<es.length:=by simpa using hx
    have hat:=j0 es i hx
    have hh:=x7 n hR hrk hx
    push_cast -dsimp [hx,hat]
    (try simp only[lS]);repeat refine And.intro (by omega) ?_
    refine cl ((vy es[i] n)) ?_;push_cast -dsimp
    have hcv:decide (Lib.compareBytes es[i].name n=0)=JO zZ.name n es:=by
     rw[hh]
     exact decide_eq_decide.2 (zfH es[i].name n).to_iff
    push_cast -dsimp [hcv]
    exact ⟨[],rfl,rfl,by push_cast -dsimp [zb,za,CLe,zd,hrk]⟩
   ·have hx:¬i<es.length:=by simpa using hx
    have hh:=H6 n hR (by omega)
    push_cast -dsimp [hx]
    exact ⟨[],rfl,rfl,by push_cast -dsimp [zb,za,CLe,zd,hrk,hh]⟩
theorem yF (es:List zZ) (n:List UInt8) (hl:es.length<=100000) (hR:JA es):Fun Tryz.prog G 231 [.sl 2 (zG es),.str n] (.tup [.sc (.int .i64 (ql js zZ.name n es:Nat)),.sc (.bool (JO zZ.name n es))]) 0:=by
 refine Fun.of (fun _=>[]) Tryz.func231 rfl (zi rfl) (by kernel_rfl) ?_;dsimp only[Tryz.f231]
 push_cast -dsimp
 refine cl (NF es n hl hR) ?_;push_cast -dsimp
 exact ⟨[],rfl,rfl,by push_cast -dsimp [zb,za,CLe,zd]⟩
theorem zfA (es:List zZ) (n:List UInt8) (hl:es.length<=100000) (hR:JA es):Fun Tryz.prog G 228 [.sl 2 (zG es),.str n] (.tup [.sc (.int .i64 (jN n es)),.sc (.bool (VG n es))]) 0:=by
 obtain ⟨_,_,h3,h4⟩:=Vo n hR
 have h:=yF (G:=G) es n hl hR
 cases hh:JO zZ.name n es with
 | false =>
  have hf:jN n es=0:=by unfold jN;rw[(h4 hh).1]
  have he:VG n es=false:=hh
  rw[hh]at h
  refine Fun.of (fun _=>[]) Tryz.func228 rfl (zi rfl) (by kernel_rfl) ?_;dsimp only[Tryz.f228]
  push_cast -dsimp
  refine cl (h) ?_;push_cast -dsimp
  exact ⟨[],rfl,rfl,by push_cast -dsimp [zb,za,CLe,zd,hf,he]⟩
 | true =>
  obtain ⟨hlt,_,g2,_⟩:=h3 hh
  have hf:jN n es=es[ql js zZ.name n es].ino:=by unfold jN;rw[g2]
  have he:VG n es=true:=hh
  have hat:=j0 es _ hlt
  rw[hh]at h
  refine Fun.of (fun _=>[]) Tryz.func228 rfl (zi rfl) (by kernel_rfl) ?_;dsimp only[Tryz.f228]
  push_cast -dsimp
  refine cl (h) ?_;push_cast -dsimp [hat]
  (try simp only[lS]);repeat refine And.intro (by omega) ?_
  exact ⟨[],rfl,rfl,by push_cast -dsimp [zb,za,CLe,zd,hf,he]⟩
end
end
section
open CA CB
open Go.RowKit
section
variable {G:zm}
theorem qU {es:List zZ}:∀ r∈zG es,r.length=2:=fun r hr=>by
 obtain ⟨x,_,rfl⟩:=List.mem_map.1 hr;rfl
theorem qW {es:List zZ}:jq (zG es):=fun r hr=>by
 obtain ⟨x,_,rfl⟩:=List.mem_map.1 hr;rfl
theorem vT {k c i:Nat} {rows:List (List C)} (hk:∀ r∈rows,r.length=k) (hi:i<=rows.length):(qo k rows c).take (i*k)=(rows.take i).flatten:=by
 have hf:=qm hk
 have h1:i*k<=rows.length*k:=Nat.mul_le_mul_right _ hi
 unfold qo
 rw[List.take_append_of_le_length (by omega),Ze hk]
theorem zgy {es:List zZ} {c r:Nat} {i:Int} (hr:r<es.length) :
  (qo 2 (zG es) c).take (r*2+1)++[C.sc (.int .i64 i)]++(qo 2 (zG es) c).drop (r*2+1+1)=qo 2 (zG (es.set r ⟨es[r].name,i⟩)) c:=by
 have hll:(zG es).length=es.length:=List.length_map ..
 have h:=uq (c:=c) (row:=Gz ⟨es[r].name,i⟩) (i:=r) qU rfl (show r<(zG es).length by omega)
 have e1:(zG es).set r (Gz ⟨es[r].name,i⟩)=zG (es.set r ⟨es[r].name,i⟩):=by simp[List.map_set]
 rw[e1]at h
 rw[←h]
 have t0:=vT (c:=c) (i:=r) (qU (es:=es)) (by omega)
 have t1:=vT (c:=c) (i:=r+1) (qU (es:=es)) (by omega)
 have e2:((zG es).take (r+1)).flatten=((zG es).take r).flatten++Gz es[r]:=by
  rw[List.take_add_one,j0 es r hr];simp
 have e3:(qo 2 (zG es) c).take (r*2+1)=(qo 2 (zG es) c).take (r*2)++[C.str es[r].name]:=by
  have e4:(qo 2 (zG es) c).take (r*2+1)=((qo 2 (zG es) c).take ((r+1)*2)).take (r*2+1):=by rw[List.take_take,Nat.min_eq_left (by omega)]
  have hl0:((zG es).take r).flatten.length=r*2:=by
   rw[qm (k:=2) fun x hx=>qU x (List.mem_of_mem_take hx),List.length_take,hll,Nat.min_eq_left (by omega)]
  rw[e4,t1,e2,t0,List.take_append,hl0,List.take_of_length_le (by omega),show r*2+1-r*2=1 by omega]
  rfl
 rw[e3]
 simp
theorem Ud (es:List zZ) (n:List UInt8) (i:Int) (hl:es.length<=90000) (hR:JA es) :
  Fun Tryz.prog G 202 [.sl 2 (zG es),.str n,.sc (.int .i64 i)] (.own 0 108 2 (zG (zY n i es))) 1:=by
 obtain ⟨_,_,h3,h4⟩:=Vo n hR
 have hll:(zG es).length=es.length:=List.length_map ..
 have hat:=yF (G:=G) es n (by omega) hR
 have hrl:=QH (o:=js) (key:=zZ.name) n es
 refine Fun.ofF (fun _=>[]) Tryz.func202 rfl (zi rfl) (by kernel_rfl) ?_;dsimp only[Tryz.f202]
 push_cast -dsimp
 refine cl (hat) ?_;push_cast -dsimp
 refine Jx [] [] (zaN (zG es) qU qW (by omega)) rfl (by decide) (by decide) (by simp) (by push_cast -dsimp) (by push_cast -dsimp) (fun r bx' m hp=>?_)
 obtain ⟨rfl,⟨hne,c,h1,h2,rfl,rfl⟩ | ⟨he,⟨rfl,rfl⟩ | ⟨rfl,rfl⟩⟩⟩:=hp
 ·have hbl:=Jq qU h1
  have hre:∀ fp fo,C.reL fp fo (qo 2 (zG es) c)=qo 2 (zG es) c:=fun fp fo=>zD (zC qW)
  have hpos:=List.length_pos_iff.2 hne
  cases hh:JO zZ.name n es with
  | true =>
   obtain ⟨hlt,g1,g2,g3,g4⟩:=h3 hh
   have hset:zY n i es=es.set (ql js zZ.name n es) ⟨n,i⟩:=g4 ⟨n,i⟩ rfl
   have hbs:=zgy (c:=c) (i:=i) hlt
   rw[g1,←hset]at hbs
   have hwl:(zY n i es).length=es.length:=by rw[hset,List.length_set]
   push_cast -dsimp [hh,hre]
   rw[hbs]
   refine ⟨by omega,by omega,by rw[hbl];omega,[(1,108,2,zG (zY n i es),c)],[.inl 0],zw rfl (by omega) (by rw[List.length_map,hwl];omega) h2 qU qW,rfl,rfl,?_⟩
   rw[hll,←hwl]
   push_cast -dsimp [zb,za,CLe,zd,show (zG (zY n i es)).length=(zY n i es).length from List.length_map ..]
  | false =>
   have hw:zY n i es=es.take (ql js zZ.name n es)++⟨n,i⟩ :: es.drop (ql js zZ.name n es):=by
    unfold zY
    rw[(h4 hh).2.1]
    exact (h4 hh).2.2 ⟨n,i⟩ rfl
   have hset:zG (zY n i es)=(zG es).take (ql js zZ.name n es)++Gz ⟨n,i⟩ :: (zG es).drop (ql js zZ.name n es):=by rw[hw];simp
   have hsl:(zG (zY n i es)).length=(zG es).length+1:=by rw[hset];simp;omega
   push_cast -dsimp [hh,hre]
   refine Jx [1] [0] (uo (e:=108) (zG es) (Gz ⟨n,i⟩) (ql js zZ.name n es) c qU rfl qW rfl (by omega) (by omega) h1 h2) rfl (by decide) (by decide) (by simp) (by push_cast -dsimp) (by push_cast -dsimp [hre]) (fun r bx' m hp=>?_)
   rw[←hset]at hp
   have hre2:∀ fp fo c,C.reL fp fo (qo 2 (zG (zY n i es)) c)=qo 2 (zG (zY n i es)) c:=fun fp fo c=>zD (zC qW)
   obtain ⟨rfl,c',g1,g2,⟨rfl,rfl⟩ | ⟨rfl,rfl⟩⟩:=hp
   ·push_cast -dsimp [hre2,hre]
    exact ⟨[(1,108,2,zG (zY n i es),c')],[.inl 1],zw rfl (by omega) g1 g2 qU qW,rfl,rfl,by push_cast -dsimp [zb,za,CLe,zd]⟩
   ·have hra:∀ fp fo,C.reL fp fo (List.replicate (c*2) .any)=List.replicate (c*2) .any:=fun fp fo=>zD (by simp[List.all_replicate,C.stayB])
    push_cast -dsimp [hre2,hre,hra]
    exact ⟨[(2,108,2,zG (zY n i es),c')],[.inl 1],zw rfl (by omega) g1 g2 qU qW,rfl,rfl,by push_cast -dsimp [zb,za,CLe,zd]⟩
 ·have he:es = []:=by simpa using he
  have hh:JO zZ.name n es=false:=by rw[he];rfl
  have hr0:ql js zZ.name n es=0:=by rw[he];rfl
  have hset:zY n i es = [⟨n,i⟩]:=by rw[he];rfl
  push_cast -dsimp [hh,hr0]
  refine Jx [] [0] (zge (e:=108) (Gz ⟨n,i⟩) rfl rfl) rfl (by decide) (by decide) (by simp) (by push_cast -dsimp) (by push_cast -dsimp) (fun r bx' m hp=>?_)
  obtain ⟨rfl,c,g1,g2,rfl,rfl⟩:=hp
  have hre:∀ fp fo,C.reL fp fo (qo 2 [Gz ⟨n,i⟩] c)=qo 2 [Gz ⟨n,i⟩] c:=fun fp fo=>zD (zC (qW (es:=[⟨n,i⟩])))
  push_cast -dsimp [hre]
  exact ⟨[(0,108,2,zG [⟨n,i⟩],c)],[.inl 1],zw rfl (by omega) g1 g2 qU qW,rfl,rfl,by push_cast -dsimp [zb,za,CLe,zd,hset]⟩
 ·have he:es = []:=by simpa using he
  have hh:JO zZ.name n es=false:=by rw[he];rfl
  have hr0:ql js zZ.name n es=0:=by rw[he];rfl
  have hset:zY n i es = [⟨n,i⟩]:=by rw[he];rfl
  push_cast -dsimp [hh,hr0]
  refine Jx [0] [0] (uo (e:=108) [] (Gz ⟨n,i⟩) 0 0 (fun r hr=>by cases hr) rfl (fun r hr=>by cases hr) rfl (by simp) (by simp) (by simp) (by simp)) rfl (by decide) (by decide) (by simp) (by push_cast -dsimp) (by push_cast -dsimp [qo]) (fun r bx' m hp=>?_)
  obtain ⟨rfl,c,g1,g2,hp⟩:=hp
  have hre:∀ fp fo,C.reL fp fo (qo 2 [Gz ⟨n,i⟩] c)=qo 2 [Gz ⟨n,i⟩] c:=fun fp fo=>zD (zC (qW (es:=[⟨n,i⟩])))
  rcases hp with ⟨rfl,rfl⟩ | ⟨rfl,rfl⟩
  ·push_cast -dsimp [hre]
   exact ⟨[(0,108,2,zG [⟨n,i⟩],c)],[.inl 1],zw rfl (Nat.lt_of_lt_of_le (Nat.zero_lt_succ _) g1) g1 g2 qU qW,rfl,rfl,by push_cast -dsimp [zb,za,CLe,zd,hset]⟩
  ·push_cast -dsimp [hre]
   exact ⟨[(1,108,2,zG [⟨n,i⟩],c)],[.inl 1],zw rfl (Nat.lt_of_lt_of_le (Nat.zero_lt_succ _) g1) g1 g2 qU qW,rfl,rfl,by push_cast -dsimp [zb,za,CLe,zd,hset]⟩
end
end
section
open CA CB
open Go.RowKit
section
variable {G:zm}
theorem zlu {A B Z:List C} {r k:Nat} (hA:A.length=r*2) (hB:B.length=(k-r)*2) (hZ:Z.length=k*2) (hr:r<=k):spl (A++Z.drop (r*2)) (r*2) (B.take ((k-r)*2))=A++B:=by
 unfold spl
 rw[List.take_of_length_le (l:=B) (by omega),List.take_append_of_le_length (by omega),List.take_of_length_le (l:=A) (by omega),List.drop_of_length_le (l:=A++Z.drop (r*2)) (by rw[List.length_append,List.length_drop];omega),List.append_nil]
theorem Vh (es:List zZ) (n:List UInt8) (hl:es.length<=90000) (hR:JA es) (hh:JO zZ.name n es=true) :
  Fun Tryz.prog G 204 [.sl 2 (zG es),.str n] (.own 0 108 2 (zG (zh n es))) 1:=by
 obtain ⟨_,_,h3,h4⟩:=Vo n hR
 have hll:(zG es).length=es.length:=List.length_map ..
 have hat:=yF (G:=G) es n (by omega) hR
 have hrl:=QH (o:=js) (key:=zZ.name) n es
 rw[hh]at hat
 obtain ⟨hlt,g1,g2,g3,g4⟩:=h3 hh
 have hw:zh n es=es.take (ql js zZ.name n es)++es.drop (ql js zZ.name n es+1):=g3
 obtain ⟨k,hk⟩:∃ k,es.length=k+1:=⟨es.length-1,by omega⟩
 have hkc:(zG es).length=k+1:=by omega
 have hn:((zG es).length:Int)-1=(k:Int):=by omega
 have hwl:(zh n es).length=k:=by rw[hw];simp;omega
 generalize ql js zZ.name n es=r at *
 have hm:min r k=r:=by omega
 rcases Nat.eq_zero_or_pos k with h1 | h1
 ·subst h1
  obtain rfl:r=0:=by omega
  have hn:((zG es).length:Int)-1=0:=hn
  have hwe:zh n es = []:=List.length_eq_zero_iff.1 hwl
  refine Fun.of (fun i=>if i=5 then kN [(0,.pure),(1,.pure),(2,.pure),(3,.pure),(4,.pure),(7,.pure),(8,.pure),(9,.pure),(10,.pure),(5,.flt [0,5,6,7,8]),(6,.pure),(11,.bar)] else []) Tryz.func204 rfl (zi rfl) (by kernel_rfl) ?_;dsimp only[Tryz.f204]
  push_cast -dsimp
  refine cl (hat) ?_;push_cast -dsimp [hn,Int.toNat_zero]
  refine ⟨by omega,by omega,znI (m:=0) (xs:=[]) Qa JZ rfl rfl (fun _ _ _ _ _ h=>by cases h) rfl ?_⟩
  push_cast -dsimp
  have hd:(zG es).drop 1 = []:=List.drop_of_length_le (by omega)
  rw[hd]
  refine ⟨⟨by split<;>first | omega | trivial,by split<;>first | omega | trivial⟩,znI (m:=0) (xs:=[]) Qa JZ rfl rfl (fun _ _ _ _ _ h=>by cases h) rfl ?_⟩
  push_cast -dsimp
  exact ⟨[.inl 0],rfl,rfl,by push_cast -dsimp [zb,za,CLe,zd,hwe]⟩
 ·refine Fun.ofF (fun i=>if i=5 then kN [(0,.pure),(1,.pure),(2,.pure),(3,.pure),(4,.pure),(7,.pure),(8,.pure),(9,.pure),(10,.pure),(5,.flt [0,5,6,7,8]),(6,.pure),(11,.bar)] else if i=1000000+73 then [true,true] else []) Tryz.func204 rfl (zi rfl) (by kernel_rfl) ?_;dsimp only[Tryz.f204]
  push_cast -dsimp
  refine cl (hat) ?_;push_cast -dsimp [hn,Int.toNat_natCast]
  have hA:((zG es).take r).flatten.length=r*2:=by
   rw[qm (k:=2) fun x hx=>qU x (List.mem_of_mem_take hx),List.length_take,hkc,Nat.min_eq_left (by omega)]
  have hB:((zG es).drop (r+1)).flatten.length=(k-r)*2:=by
   rw[qm (k:=2) fun x hx=>qU x (List.mem_of_mem_drop hx),List.length_drop,hkc];omega
  have hZ:((List.replicate k [C.str [],C.sc (.int .i64 0)]).flatten).length=k*2:=by simp
  refine ⟨⟨by omega,by omega⟩,by omega,by omega,by omega,by omega,⟨by omega,by omega⟩,⟨by omega,by omega⟩,⟨by omega,by omega⟩,zkf (m:=r) (xs:=((zG es).take r).flatten) Qa JZ (by simp[C.xs?,C.rows?,hkc];omega) rfl hA (by rw[hZ];omega) ?_⟩
  rw[hm]
  push_cast -dsimp
  have hS:spl (List.replicate k [C.str [],C.sc (.int .i64 0)]).flatten 0 (((zG es).take r).flatten.take (r*2))=((zG es).take r).flatten++((List.replicate k [C.str [],C.sc (.int .i64 0)]).flatten).drop (r*2):=by
   unfold spl
   rw[List.take_zero,List.nil_append,Nat.zero_add,List.take_of_length_le (by omega),hA]
  have hm2:min (k-r) (k-r)=k-r:=Nat.min_self _
  rw[hS]
  refine ⟨⟨by split<;>first | exact ⟨by omega,by omega⟩ | trivial,by split<;>first | exact ⟨by omega,by omega⟩ | trivial,by split<;>first | exact ⟨by omega,by omega⟩ | trivial⟩,Nat.le_refl _,⟨by omega,by omega⟩,zkf (m:=k-r) (xs:=((zG es).drop (r+1)).flatten) Qa JZ (by simp[C.xs?,C.rows?,hkc]) rfl hB (by rw[List.length_append,List.length_drop,hA,hZ];omega) ?_⟩
  rw[hm2]
  push_cast -dsimp
  have hwc:(zG (zh n es)).length=k:=(List.length_map ..).trans hwl
  have hF:spl (((zG es).take r).flatten++((List.replicate k [C.str [],C.sc (.int .i64 0)]).flatten).drop (r*2)) (r*2) (((zG es).drop (r+1)).flatten.take ((k-r)*2))=qo 2 (zG (zh n es)) k:=by
   rw[zlu hA hB hZ (by omega)]
   unfold qo
   rw[hwc,Nat.sub_self,Nat.zero_mul,hw]
   simp
  rw[hF]
  refine ⟨[(0,108,2,zG (zh n es),k)],[.inl 0],zw rfl h1 (by omega) (by omega) qU qW,rfl,rfl,?_⟩
  push_cast -dsimp [zb,za,CLe,zd,hwc]
end
end
section
theorem QL (n:Int) (xs:List zy):zF n xs=(YU n xs).isSome:=by
 unfold zF YU
 induction xs with
 | nil=>rfl
 | cons y r ih =>
  rw[List.any_cons,List.find?_cons]
  cases h:(y.ino==n) with
  | true=>rfl
  | false=>rw[Bool.false_or,ih]
theorem Gd {n:Int} {xs:List zy} {x:zy} (h:YU n xs=some x):x.ino=n/\x∈xs:=by
 unfold YU at h
 have h1:=List.find?_some h
 exact ⟨by simpa using h1,List.mem_of_find?_eq_some h⟩
theorem vd (n:Int) (x:zy):∀ xs:List zy,(∀ z∈xs,z.ino≠x.ino)->YU n (QX x xs)=if x.ino=n then some x else YU n xs
 | [],_=>by
  unfold QX YU
  by_cases h:x.ino=n<;>simp[h]
 | y :: r,hn=>by
  have hy:=hn y List.mem_cons_self
  have ih:=vd n x r fun z hz=>hn z (List.mem_cons_of_mem _ hz)
  unfold YU at ih ⊢
  unfold QX
  split
  ·by_cases h:x.ino=n
   ·simp[h]
   ·simp[h,List.find?_cons]
  ·by_cases h:x.ino=n
   ·rw[if_pos h]at ih ⊢
    have hyn:(y.ino==n)=false:=by simp;omega
    rw[List.find?_cons,hyn];exact ih
   ·rw[if_neg h]at ih ⊢
    rw[List.find?_cons,List.find?_cons,ih]
theorem QB (n m:Int):∀ xs:List zy,YU n (qk m xs)=if n=m then none else YU n xs
 | []=>by unfold YU qk;simp
 | y :: r=>by
  have ih:=QB n m r
  by_cases hy:y.ino=m
  ·rw[j7 hy,ih]
   by_cases h:n=m
   ·rw[if_pos h,if_pos h]
   ·rw[if_neg h,if_neg h]
    have hyn:(y.ino==n)=false:=by simp;omega
    unfold YU
    rw[List.find?_cons,hyn]
  ·rw[Jy hy]
   unfold YU at ih ⊢
   rw[List.find?_cons,List.find?_cons,ih]
   by_cases h:n=m
   ·have hyn:(y.ino==n)=false:=by simp;omega
    simp only[hyn,if_pos h]
   ·simp only[if_neg h]
theorem zka {n:Int} {xs:List zy}:∀ z∈qk n xs,z.ino≠n:=fun z hz=>by
 unfold qk at hz
 simpa using (List.mem_filter.1 hz).2
theorem vn (n:Int) (x:zy) (xs:List zy):YU n (qH x xs)=if x.ino=n then some x else YU n xs:=by
 unfold qH
 rw[vd n x _ zka,QB]
 by_cases h:x.ino=n
 ·rw[if_pos h,if_pos h]
 ·rw[if_neg h,if_neg h,if_neg (fun e=>h e.symm)]
theorem jW (n:Int) (x:zy) (xs:List zy):zF n (qH x xs)=(decide (x.ino=n)||zF n xs):=by
 rw[QL,vn,QL]
 by_cases h:x.ino=n<;>simp[h]
theorem VL (n m:Int) (xs:List zy):zF n (qk m xs)=(!decide (n=m)&&zF n xs):=by
 rw[QL,QB,QL]
 by_cases h:n=m<;>simp[h]
theorem G9 {x:zy}:∀ {xs:List zy},qc xs->YU x.ino xs=some x->qH x xs=xs
 | [],_,h=>by unfold YU at h;simp at h
 | y :: r,hR,h=>by
  obtain ⟨h1,h2⟩:=jI.1 hR
  by_cases hy:y.ino=x.ino
  ·have e:y=x:=by
    unfold YU at h
    rw[List.find?_cons_of_pos (by simpa using hy)]at h
    simpa using h
   subst e
   have hb:zF y.ino r=false:=ZV h1
   unfold qH
   rw[j7 rfl,XW hb,zep h1]
  ·have hx:YU x.ino r=some x:=by
    unfold YU at h ⊢
    rwa [List.find?_cons_of_neg (by simpa using hy)]at h
   have hlt:=h1 x (Gd hx).2
   rw[Qt hlt,G9 h2 hx]
theorem zkM {xs:List zy}:∀ {x:zy},qc xs->(x∈xs↔YU x.ino xs=some x):=by
 induction xs with
 | nil=>intro x _;simp[YU]
 | cons y r ih =>
  intro x hR
  obtain ⟨h1,h2⟩:=jI.1 hR
  constructor
  ·intro hx
   rcases List.mem_cons.1 hx with rfl | hx
   ·unfold YU;rw[List.find?_cons_of_pos (by simp)]
   ·have:=h1 x hx
    unfold YU
    rw[List.find?_cons_of_neg (by simp;omega)]
    exact (ih h2).1 hx
  ·intro h;exact (Gd h).2
def MN (g:zy->Nat) (xs:List zy):Nat:=(xs.map g).sum
theorem Un (g:zy->Nat) {n:Int}:∀ {xs:List zy},qc xs->MN g xs=MN g (qk n xs)+(match YU n xs with | some x=>g x | none=>0)
 | [],_=>rfl
 | y :: r,hR=>by
  obtain ⟨h1,h2⟩:=jI.1 hR
  have ih:=Un g (n:=n) h2
  unfold MN at ih ⊢
  by_cases hy:y.ino=n
  ·have hb:zF n r=false:=ZV fun z hz=>by have:=h1 z hz;omega
   have hg:YU n (y :: r)=some y:=by unfold YU;rw[List.find?_cons_of_pos (by simpa using hy)]
   rw[hg,j7 hy,XW hb]
   simp;omega
  ·have hg:YU n (y :: r)=YU n r:=by unfold YU;rw[List.find?_cons_of_neg (by simpa using hy)]
   rw[hg,Jy hy]
   simp only[List.map_cons,List.sum_cons]
   omega
theorem ua (g:zy->Nat) (x:zy):∀ xs:List zy,MN g (QX x xs)=MN g xs+g x
 | []=>by unfold QX MN;simp
 | y :: r=>by
  have ih:=ua g x r
  unfold MN at ih ⊢
  unfold QX
  split
  ·simp;omega
  ·simp only[List.map_cons,List.sum_cons];omega
theorem ut (g:zy->Nat) {x:zy} {xs:List zy} (hR:qc xs):MN g (qH x xs)+(match YU x.ino xs with | some y=>g y | none=>0)=MN g xs+g x:=by
 unfold qH
 rw[ua,Un g (n:=x.ino) hR]
 omega
end
section
def JT (n:Int) (x:zy):Nat:=(x.es.filter fun e=>decide (e.ino=n)).length
def JJ (n:Int) (xs:List zy):Nat:=MN (JT n) xs
structure FsI (f:FsV):Prop where
 rises:qc f.xs
 ino:∀ x∈f.xs,1<=x.ino/\x.ino<f.next
 kind:∀ x∈f.xs,x.kind=1∨x.kind=2∨x.kind=3
 es:∀ x∈f.xs,JA x.es
 file:∀ x∈f.xs,x.kind≠2->x.es = []
 led:∀ x∈f.xs,∀ e∈x.es,zF e.ino f.xs=true
 links:∀ x∈f.xs,x.links=(JJ x.ino f.xs:Int)
 root:zF 1 f.xs=true
 base:(zg 1 f.xs).kind=2
 bare:JJ 1 f.xs=0
theorem zk {n:Int} {xs:List zy} (h:zF n xs=true):YU n xs=some (zg n xs)/\zg n xs∈xs/\(zg n xs).ino=n:=by
 rw[QL]at h
 obtain ⟨x,hx⟩:=Option.isSome_iff_exists.1 h
 have e:zg n xs=x:=by unfold zg;rw[hx];rfl
 obtain ⟨h1,h2⟩:=Gd hx
 rw[e]
 exact ⟨hx,h2,h1⟩
theorem zcm {n:Int} {xs:List zy} (h:zF n xs=false):YU n xs=none/\zg n xs=zj7:=by
 have h1:=Hz h
 exact ⟨h1,by unfold zg;rw[h1];rfl⟩
theorem QQ (n:Int) (x:zy) (xs:List zy):zg n (qH x xs)=if x.ino=n then x else zg n xs:=by
 unfold zg
 rw[vn]
 split<;>rfl
theorem zet (n m:Int) (xs:List zy):zg n (qk m xs)=if n=m then zj7 else zg n xs:=by
 unfold zg
 rw[QB]
 split<;>rfl
theorem jE {x z:zy} {xs:List zy}:z∈qH x xs↔z=x∨(z∈xs/\z.ino≠x.ino):=by
 unfold qH
 rw[yU]
 unfold qk
 simp
theorem V5 {n:Int} {z:zy} {xs:List zy}:z∈qk n xs↔z∈xs/\z.ino≠n:=by
 unfold qk
 simp
theorem yZ {α κ:Type} [DecidableEq κ] {o:zi4 κ} {key:α->κ} (p:α->Bool) (x:α):∀ xs:List α,((Xa o key x xs).filter p).length=(xs.filter p).length+if p x then 1 else 0
 | []=>by unfold Xa;cases h:p x<;>simp[h]
 | y :: r=>by
  have ih:=yZ (o:=o) (key:=key) p x r
  unfold Xa
  split
  ·cases h:p x<;>simp[h,List.filter_cons]
  ·rw[List.filter_cons,List.filter_cons]
   cases h:p y
   ·simpa using ih
   ·simp[ih];omega
theorem zeW {α κ:Type} [DecidableEq κ] {o:zi4 κ} {key:α->κ} (p:α->Bool) {n:κ} {xs:List α} (hR:qF o key xs) {e:α} (h:Ji key n xs=some e):(xs.filter p).length=((JE key n xs).filter p).length+if p e then 1 else 0:=by
 obtain ⟨_,_,h3,h4⟩:=Vo n hR
 cases hh:JO key n xs with
 | false=>rw[(h4 hh).1]at h;cases h
 | true =>
  obtain ⟨g,_,g2,g3,_⟩:=h3 hh
  rw[g2]at h
  simp only[Option.some.injEq]at h
  have e0:xs=xs.take (ql o key n xs)++e :: xs.drop (ql o key n xs+1):=by
   rw[←h,←List.drop_eq_getElem_cons g,List.take_append_drop]
  rw[g3]
  conv=>lhs;rw[e0]
  rw[List.filter_append,List.filter_append,List.filter_cons]
  cases hp:p e<;>simp<;>omega
theorem j5 {α κ:Type} [DecidableEq κ] {key:α->κ} {n:κ} {xs:List α} {e:α} (h:Ji key n xs=some e):key e=n/\e∈xs:=by
 unfold Ji at h
 exact ⟨by have:=List.find?_some h;simpa using this,List.mem_of_find?_eq_some h⟩
theorem jB {α κ:Type} [DecidableEq κ] {key:α->κ} {n:κ} {xs:List α}:JO key n xs=(Ji key n xs).isSome:=by
 unfold JO Ji
 induction xs with
 | nil=>rfl
 | cons y r ih =>
  rw[List.any_cons,List.find?_cons]
  cases h:decide (key y=n) with
  | true=>rfl
  | false=>rw[Bool.false_or,ih]
theorem V3 {n m:Int} {x:zy} {xs:List zy} (hR:qc xs) (hh:zF n xs=true) (hx:x.ino=n):JJ m (qH x xs)+JT m (zg n xs)=JJ m xs+JT m x:=by
 have h:=ut (JT m) (x:=x) hR
 rw[hx,(zk hh).1]at h
 exact h
theorem zen {m:Int} {x:zy} {xs:List zy} (hR:qc xs) (hh:zF x.ino xs=false):JJ m (qH x xs)=JJ m xs+JT m x:=by
 have h:=ut (JT m) (x:=x) hR
 rw[(zcm hh).1]at h
 exact h
theorem zih {n m:Int} {xs:List zy} (hR:qc xs) (hh:zF n xs=true):JJ m xs=JJ m (qk n xs)+JT m (zg n xs):=by
 have h:=Un (JT m) (n:=n) hR
 rw[(zk hh).1]at h
 exact h
theorem zgA {n:Int} {xs:List zy} (h:∀ x∈xs,∀ e∈x.es,e.ino≠n):JJ n xs=0:=by
 unfold JJ MN
 rw[List.sum_eq_zero_iff_forall_eq_nat]
 intro k hk
 obtain ⟨x,hx,rfl⟩:=List.mem_map.1 hk
 unfold JT
 rw[List.length_eq_zero_iff,List.filter_eq_nil_iff]
 intro e he
 simpa using h x hx e he
theorem y0 {n:Int} {xs:List zy} (h:JJ n xs=0):∀ x∈xs,∀ e∈x.es,e.ino≠n:=fun x hx e he hn=>by
 unfold JJ MN at h
 rw[List.sum_eq_zero_iff_forall_eq_nat]at h
 have:=h _ (List.mem_map_of_mem hx)
 unfold JT at this
 rw[List.length_eq_zero_iff,List.filter_eq_nil_iff]at this
 exact this e he (by simpa using hn)
theorem Za {m i:Int} {n:List UInt8} {es:List zZ} {x:zy} (hR:JA es) (h:VG n es=false):JT m { x with es:=zY n i es }=JT m { x with es:=es }+if i=m then 1 else 0:=by
 obtain ⟨_,_,_,h4⟩:=Vo n hR
 unfold zY JT
 rw[(h4 h).2.1]
 show ((Xa js zZ.name ⟨n,i⟩ es).filter _).length=_
 rw[yZ]
 by_cases hi:i=m<;>simp[hi]
theorem ZX {m i:Int} {n:List UInt8} {es:List zZ} {x:zy} (hR:JA es) (h:Ji zZ.name n es=some ⟨n,i⟩):JT m { x with es:=es }=JT m { x with es:=zh n es }+if i=m then 1 else 0:=by
 unfold zh JT
 have:=zeW (fun e:zZ=>decide (e.ino=m)) hR h
 simp only at this ⊢
 rw[this]
 by_cases hi:i=m<;>simp[hi]
theorem Zf {n:List UInt8} {es:List zZ} (h:VG n es=true):Ji zZ.name n es=some ⟨n,jN n es⟩:=by
 unfold VG at h
 rw[jB]at h
 obtain ⟨e,he⟩:=Option.isSome_iff_exists.1 h
 have h1:=(j5 he).1
 unfold jN
 rw[he]
 cases e with
 | mk a b=>simp at h1 ⊢;exact h1
theorem Zt {n:List UInt8} {i:Int} {es:List zZ} (h:JA es):JA (zY n i es):=VO (x:=(⟨n,i⟩:zZ)) h
theorem JN {n:List UInt8} {es:List zZ} (h:JA es):JA (zh n es):=UR n h
theorem VJ {n:List UInt8} {i:Int} {es:List zZ} {e:zZ} (h:e∈zY n i es):e=⟨n,i⟩∨e∈es:=by
 unfold zY at h
 rcases QT.1 h with h | h
 ·exact .inl h
 ·exact .inr (VV.1 h).1
theorem J2 {n:List UInt8} {es:List zZ} {e:zZ} (h:e∈zh n es):e∈es/\e.name≠n:=VV.1 h
end
section
structure XG (f:FsV) (s:qM):Prop where
 has:zF s.dir f.xs=true
 kind:(zg s.dir f.xs).kind=2
 free:VG s.name (zg s.dir f.xs).es=false
structure qg (f:FsV) (s:qM):Prop where
 has:zF s.dir f.xs=true
 kind:(zg s.dir f.xs).kind=2
 there:Ji zZ.name s.name (zg s.dir f.xs).es=some ⟨s.name,s.ino⟩
theorem qg.ino {f:FsV} {s:qM} (hf:FsI f) (h:qg f s):zF s.ino f.xs=true:=by
 have:=hf.led _ (zk h.has).2.1 ⟨s.name,s.ino⟩ (j5 h.there).2
 exact this
abbrev qr (d:zy) (es:List zZ):zy:={ d with es:=es }
theorem jO {xs:List zy} {n:Int} {F:List zZ->List zZ} (hh:zF n xs=true) {z:zy}:z∈qK n F xs↔z=qr (zg n xs) (F (zg n xs).es)∨(z∈xs/\z.ino≠n):=by
 unfold qK
 rw[jE]
 show z=qr _ _∨(z∈xs/\z.ino≠(zg n xs).ino)↔_
 rw[(zk hh).2.2]
theorem qh {xs:List zy} {n m:Int} {F:List zZ->List zZ} (hh:zF n xs=true):zF m (qK n F xs)=zF m xs:=by
 unfold qK
 rw[jW]
 show (decide ((zg n xs).ino=m)||zF m xs)=_
 rw[(zk hh).2.2]
 by_cases h:n=m
 ·subst h;rw[hh];simp
 ·simp[h]
theorem JY {xs:List zy} {n m:Int} {F:List zZ->List zZ} (hh:zF n xs=true):zg m (qK n F xs)=if n=m then qr (zg n xs) (F (zg n xs).es) else zg m xs:=by
 unfold qK
 rw[QQ]
 show (if (zg n xs).ino=m then _ else _)=_
 rw[(zk hh).2.2]
theorem ZH {xs:List zy} {n m:Int} {F:List zZ->List zZ} (hR:qc xs) (hh:zF n xs=true):JJ m (qK n F xs)+JT m (zg n xs)=JJ m xs+JT m (qr (zg n xs) (F (zg n xs).es)):=
 V3 hR hh (zk hh).2.2
theorem zhX {f:FsV} (hf:FsI f):zF f.next f.xs=false/\∀ x∈f.xs,∀ e∈x.es,e.ino≠f.next:=by
 have h1:zF f.next f.xs=false:=by
  rw[Bool.eq_false_iff]
  intro h
  have:=(hf.ino _ (zk h).2.1).2
  rw[(zk h).2.2]at this
  omega
 refine ⟨h1,fun x hx e he hn=>?_⟩
 have:=hf.led x hx e he
 rw[hn,h1]at this
 cases this
theorem zct {f:FsV} (hf:FsI f):1<f.next:=by
 have:=(hf.ino _ (zk hf.root).2.1).2
 rw[(zk hf.root).2.2]at this
 exact this
theorem zjY {f:FsV} (hf:FsI f) {s:qM} (hs:XG f s) (k:Int) (hk:k=1∨k=2∨k=3) (t:List UInt8):FsI (zab f s k t):=by
 obtain ⟨n1,n2⟩:=zhX hf
 have hd:=(zk hs.has).2.1
 have hR1:qc (qK s.dir (zY s.name f.next) f.xs):=qd hf.rises
 have hn1:zF f.next (qK s.dir (zY s.name f.next) f.xs)=false:=by rw[qh hs.has];exact n1
 have hlt:=zct hf
 have hdn:s.dir≠f.next:=fun e=>by have:=hs.has;rw[e,n1]at this;cases this
 refine ⟨qd hR1,fun x hx=>?_,fun x hx=>?_,fun x hx=>?_,fun x hx hk2=>?_,fun x hx e he=>?_,fun x hx=>?_,?_,?_,?_⟩
 ·rcases jE.1 hx with rfl | ⟨hx,_⟩
  ·exact ⟨by show 1<=f.next;omega,by show f.next<f.next+1;omega⟩
  ·rcases (jO hs.has).1 hx with rfl | ⟨hx,_⟩
   ·have:=hf.ino _ hd
    exact ⟨this.1,by show (zg s.dir f.xs).ino<f.next+1;omega⟩
   ·have:=hf.ino _ hx
    exact ⟨this.1,by show x.ino<f.next+1;omega⟩
 ·rcases jE.1 hx with rfl | ⟨hx,_⟩
  ·exact hk
  ·rcases (jO hs.has).1 hx with rfl | ⟨hx,_⟩
   ·exact .inr (.inl hs.kind)
   ·exact hf.kind _ hx
 ·rcases jE.1 hx with rfl | ⟨hx,_⟩
  ·exact List.Pairwise.nil
  ·rcases (jO hs.has).1 hx with rfl | ⟨hx,_⟩
   ·exact Zt (hf.es _ hd)
   ·exact hf.es _ hx
 ·rcases jE.1 hx with rfl | ⟨hx,_⟩
  ·rfl
  ·rcases (jO hs.has).1 hx with rfl | ⟨hx,_⟩
   ·exact absurd hs.kind hk2
   ·exact hf.file _ hx hk2
 ·show zF e.ino (qH _ _)=true
  rw[jW,qh hs.has]
  show (decide (f.next=e.ino)||zF e.ino f.xs)=true
  rcases jE.1 hx with rfl | ⟨hx,_⟩
  ·cases he
  ·rcases (jO hs.has).1 hx with rfl | ⟨hx,_⟩
   ·rcases VJ he with rfl | he
    ·simp
    ·rw[hf.led _ hd e he,Bool.or_true]
   ·rw[hf.led _ hx e he,Bool.or_true]
 ·show x.links=(JJ x.ino (qH _ _):Int)
  rw[zen hR1 hn1]
  have hc:=ZH (m:=x.ino) (F:=zY s.name f.next) hf.rises hs.has
  have hw:=Za (m:=x.ino) (i:=f.next) (x:=zg s.dir f.xs) (hf.es _ hd) hs.free
  have hz:JT x.ino (⟨f.next,k,1,t,if k=2 then s.dir else 0,[]⟩:zy)=0:=rfl
  have hw:JT x.ino (qr (zg s.dir f.xs) (zY s.name f.next (zg s.dir f.xs).es))=JT x.ino (zg s.dir f.xs)+if f.next=x.ino then 1 else 0:=hw
  rw[hz]
  rcases jE.1 hx with rfl | ⟨hx,hxn⟩
  ·have h0:JJ f.next f.xs=0:=zgA n2
   have hw:JT f.next (qr (zg s.dir f.xs) (zY s.name f.next (zg s.dir f.xs).es))=JT f.next (zg s.dir f.xs)+if f.next=f.next then 1 else 0:=hw
   rw[if_pos rfl]at hw
   show (1:Int)=((JJ f.next (qK s.dir (zY s.name f.next) f.xs)+0:Nat):Int)
   have hc:JJ f.next (qK s.dir (zY s.name f.next) f.xs)+JT f.next (zg s.dir f.xs)=JJ f.next f.xs+JT f.next (qr (zg s.dir f.xs) (zY s.name f.next (zg s.dir f.xs).es)):=hc
   omega
  ·have hxn:x.ino≠f.next:=hxn
   rw[if_neg fun e=>hxn e.symm]at hw
   have hl:x.links=(JJ x.ino f.xs:Int):=by
    rcases (jO hs.has).1 hx with rfl | ⟨hx,_⟩
    ·exact hf.links (zg s.dir f.xs) hd
    ·exact hf.links _ hx
   omega
 ·show zF 1 (qH _ _)=true
  rw[jW,qh hs.has,hf.root,Bool.or_true]
 ·show (zg 1 (qH _ _)).kind=2
  rw[QQ]
  rw[if_neg (show ¬f.next=1 by omega),JY hs.has]
  split
  ·exact hs.kind
  ·exact hf.base
 ·show JJ 1 (qH _ _)=0
  rw[zen hR1 hn1]
  have hc:=ZH (m:=1) (F:=zY s.name f.next) hf.rises hs.has
  have hw:JT 1 (qr (zg s.dir f.xs) (zY s.name f.next (zg s.dir f.xs).es))=JT 1 (zg s.dir f.xs)+if f.next=1 then 1 else 0:=Za (m:=1) (i:=f.next) (x:=zg s.dir f.xs) (hf.es (zg s.dir f.xs) hd) hs.free
  have hz:JT 1 (⟨f.next,k,1,t,if k=2 then s.dir else 0,[]⟩:zy)=0:=rfl
  have:=hf.bare
  rw[if_neg (show ¬f.next=1 by omega)]at hw
  omega
theorem zmV {f:FsV} (hf:FsI f) {s:qM} (hs:XG f s) (k:Int) (hk:k=1∨k=2∨k=3) (t:List UInt8):FsI (Zj f s k t).1:=by
 unfold Zj
 by_cases h1:may s.name=true
 ·rw[if_pos h1]
  by_cases h2:Jl f 1 (if k=1 then (t.length:Int) else 0)=true
  ·rw[if_pos h2];exact zjY hf hs k hk t
  ·rw[if_neg h2];exact hf
 ·rw[if_neg h1];exact hf
theorem zj9 {f:FsV} (hf:FsI f) {i:Int} (hh:zF i f.xs=true) (t:List UInt8):FsI (xJ f i t):=by
 have hg:=zk hh
 have hmem:∀ {z:zy},z∈(xJ f i t).xs->∃ y∈f.xs,z.ino=y.ino/\z.kind=y.kind/\z.es=y.es/\z.links=y.links:=fun {z} hz=>by
  rcases jE.1 hz with rfl | ⟨hz,_⟩
  ·exact ⟨_,hg.2.1,rfl,rfl,rfl,rfl⟩
  ·exact ⟨_,hz,rfl,rfl,rfl,rfl⟩
 have hhas:∀ m,zF m (xJ f i t).xs=zF m f.xs:=fun m=>by
  show zF m (qH _ _)=_
  rw[jW]
  show (decide ((zg i f.xs).ino=m)||_)=_
  rw[hg.2.2]
  by_cases h:i=m
  ·subst h;rw[hh];simp
  ·simp[h]
 have hcnt:∀ m,JJ m (xJ f i t).xs=JJ m f.xs:=fun m=>by
  have h:=V3 (m:=m) (x:={ zg i f.xs with data:=t }) hf.rises hh hg.2.2
  have e:JT m { zg i f.xs with data:=t }=JT m (zg i f.xs):=rfl
  show JJ m (qH _ _)=_
  omega
 refine ⟨qd hf.rises,fun x hx=>?_,fun x hx=>?_,fun x hx=>?_,fun x hx hk2=>?_,fun x hx e he=>?_,fun x hx=>?_,by rw[hhas];exact hf.root,?_,?_⟩
 ·obtain ⟨y,hy,e1,_⟩:=hmem hx;rw[e1];exact hf.ino y hy
 ·obtain ⟨y,hy,_,e2,_⟩:=hmem hx;rw[e2];exact hf.kind y hy
 ·obtain ⟨y,hy,_,_,e3,_⟩:=hmem hx;rw[e3];exact hf.es y hy
 ·obtain ⟨y,hy,_,e2,e3,_⟩:=hmem hx;rw[e3];exact hf.file y hy (by rw[←e2];exact hk2)
 ·obtain ⟨y,hy,_,_,e3,_⟩:=hmem hx;rw[hhas];exact hf.led y hy e (by rw[←e3];exact he)
 ·obtain ⟨y,hy,e1,_,_,e4⟩:=hmem hx;rw[hcnt,e4,e1];exact hf.links y hy
 ·show (zg 1 (qH _ _)).kind=2
  rw[QQ]
  split
  ·rename_i h
   have h:(zg i f.xs).ino=1:=h
   rw[hg.2.2]at h
   subst h
   exact hf.base
  ·exact hf.base
 ·rw[hcnt];exact hf.bare
theorem zkH {f:FsV} (hf:FsI f) {s:qM} (hs:XG f s) {i:Int} (hi:zF i f.xs=true) (hk:(zg i f.xs).kind≠2):FsI (Uw f s i):=by
 have hd:=zk hs.has
 have hx:=zk hi
 have hne:s.dir≠i:=fun e=>hk (by rw[←e];exact hs.kind)
 have hR1:qc (qK s.dir (zY s.name i) f.xs):=qd hf.rises
 have hi1:zF i (qK s.dir (zY s.name i) f.xs)=true:=by rw[qh hs.has];exact hi
 have hg1:zg i (qK s.dir (zY s.name i) f.xs)=zg i f.xs:=by rw[JY hs.has,if_neg hne]
 have hmem:∀ {z:zy},z∈(Uw f s i).xs->z = { zg i f.xs with links:=(zg i f.xs).links+1 }∨z=qr (zg s.dir f.xs) (zY s.name i (zg s.dir f.xs).es)∨(z∈f.xs/\z.ino≠s.dir/\z.ino≠i):=fun {z} hz=>by
  rcases jE.1 hz with rfl | ⟨hz,hzi⟩
  ·exact .inl rfl
  ·have hzi:z.ino≠(zg i f.xs).ino:=hzi
   rw[hx.2.2]at hzi
   rcases (jO hs.has).1 hz with rfl | ⟨hz,hzd⟩
   ·exact .inr (.inl rfl)
   ·exact .inr (.inr ⟨hz,hzd,hzi⟩)
 have hhas:∀ m,zF m (Uw f s i).xs=zF m f.xs:=fun m=>by
  show zF m (qH _ _)=_
  rw[jW,qh hs.has]
  show (decide ((zg i f.xs).ino=m)||_)=_
  rw[hx.2.2]
  by_cases h:i=m
  ·subst h;rw[hi];simp
  ·simp[h]
 have hcnt:∀ m,JJ m (Uw f s i).xs=JJ m f.xs+if i=m then 1 else 0:=fun m=>by
  have h:=V3 (m:=m) (x:={ zg i f.xs with links:=(zg i f.xs).links+1 }) hR1 hi1 hx.2.2
  rw[hg1]at h
  have e:JT m { zg i f.xs with links:=(zg i f.xs).links+1 }=JT m (zg i f.xs):=rfl
  have hc:=ZH (m:=m) (F:=zY s.name i) hf.rises hs.has
  have hw:JT m (qr (zg s.dir f.xs) (zY s.name i (zg s.dir f.xs).es))=JT m (zg s.dir f.xs)+if i=m then 1 else 0:=Za (m:=m) (i:=i) (x:=zg s.dir f.xs) (hf.es (zg s.dir f.xs) hd.2.1) hs.free
  show JJ m (qH _ _)=_
  omega
 refine ⟨qd hR1,fun x hx'=>?_,fun x hx'=>?_,fun x hx'=>?_,fun x hx' hk2=>?_,fun x hx' e he=>?_,fun x hx'=>?_,by rw[hhas];exact hf.root,?_,?_⟩
 ·rcases hmem hx' with rfl | rfl | ⟨h,_⟩
  ·exact hf.ino (zg i f.xs) hx.2.1
  ·exact hf.ino (zg s.dir f.xs) hd.2.1
  ·exact hf.ino _ h
 ·rcases hmem hx' with rfl | rfl | ⟨h,_⟩
  ·exact hf.kind (zg i f.xs) hx.2.1
  ·exact hf.kind (zg s.dir f.xs) hd.2.1
  ·exact hf.kind _ h
 ·rcases hmem hx' with rfl | rfl | ⟨h,_⟩
  ·exact hf.es (zg i f.xs) hx.2.1
  ·exact Zt (hf.es (zg s.dir f.xs) hd.2.1)
  ·exact hf.es _ h
 ·rcases hmem hx' with rfl | rfl | ⟨h,_⟩
  ·exact hf.file (zg i f.xs) hx.2.1 hk2
  ·exact absurd hs.kind hk2
  ·exact hf.file _ h hk2
 ·rw[hhas]
  rcases hmem hx' with rfl | rfl | ⟨h,_⟩
  ·exact hf.led (zg i f.xs) hx.2.1 e he
  ·rcases VJ he with rfl | he
   ·exact hi
   ·exact hf.led (zg s.dir f.xs) hd.2.1 e he
  ·exact hf.led _ h e he
 ·rw[hcnt]
  rcases hmem hx' with rfl | rfl | ⟨h,_,hzi⟩
  ·have:=hf.links (zg i f.xs) hx.2.1
   show (zg i f.xs).links+1=((JJ (zg i f.xs).ino f.xs+if i=(zg i f.xs).ino then 1 else 0:Nat):Int)
   rw[if_pos hx.2.2.symm,this];rfl
  ·have:=hf.links (zg s.dir f.xs) hd.2.1
   show (zg s.dir f.xs).links=((JJ (zg s.dir f.xs).ino f.xs+if i=(zg s.dir f.xs).ino then 1 else 0:Nat):Int)
   rw[if_neg (by rw[hd.2.2];exact fun e=>hne e.symm),this];rfl
  ·rw[if_neg fun e=>hzi e.symm]
   exact hf.links _ h
 ·show (zg 1 (qH _ _)).kind=2
  rw[QQ]
  split
  ·rename_i h
   have h:(zg i f.xs).ino=1:=h
   rw[hx.2.2]at h
   subst h
   exact hf.base
  ·rw[JY hs.has]
   split
   ·exact hs.kind
   ·exact hf.base
 ·rw[hcnt,hf.bare,if_neg fun e=>hk (by rw[e];exact hf.base)]
theorem zbA {f:FsV} (hf:FsI f) {s:qM} (hs:qg f s):s.ino≠1:=fun e =>
 y0 hf.bare _ (zk hs.has).2.1 _ (j5 hs.there).2 e
theorem GY {f:FsV} (hf:FsI f) {s:qM} (hs:qg f s) (he:(zg s.ino f.xs).es = []):FsI (zR f s):=by
 have hi:=qg.ino hf hs
 have hd:=zk hs.has
 have hx:=zk hi
 have hr:=zbA hf hs
 have hne:s.dir≠s.ino:=fun e=>by
  have:=(j5 hs.there).2
  rw[e,he]at this
  cases this
 have hR1:qc (qK s.dir (zh s.name) f.xs):=qd hf.rises
 have hi1:zF s.ino (qK s.dir (zh s.name) f.xs)=true:=by rw[qh hs.has];exact hi
 have hg1:zg s.ino (qK s.dir (zh s.name) f.xs)=zg s.ino f.xs:=by rw[JY hs.has,if_neg hne]
 have hc1:∀ m,JJ m (qK s.dir (zh s.name) f.xs)+(if s.ino=m then 1 else 0)=JJ m f.xs:=fun m=>by
  have hc:=ZH (m:=m) (F:=zh s.name) hf.rises hs.has
  have hw:JT m (zg s.dir f.xs)=JT m (qr (zg s.dir f.xs) (zh s.name (zg s.dir f.xs).es))+if s.ino=m then 1 else 0:=ZX (m:=m) (i:=s.ino) (x:=zg s.dir f.xs) (hf.es (zg s.dir f.xs) hd.2.1) hs.there
  omega
 have hlk:=hf.links (zg s.ino f.xs) hx.2.1
 rw[hx.2.2]at hlk
 have hci:=hc1 s.ino
 rw[if_pos rfl]at hci
 have hz:∀ m,JT m (zg s.ino f.xs)=0:=fun m=>by unfold JT;rw[he];rfl
 unfold zR
 by_cases hl:(zg s.ino f.xs).links-1=0
 ·rw[if_pos hl]
  have hc0:JJ s.ino (qK s.dir (zh s.name) f.xs)=0:=by omega
  have hcnt:∀ m,JJ m (qk s.ino (qK s.dir (zh s.name) f.xs))=JJ m (qK s.dir (zh s.name) f.xs):=fun m=>by
   have:=zih (m:=m) hR1 hi1
   rw[hg1,hz]at this
   omega
  have hmem:∀ {z:zy},z∈qk s.ino (qK s.dir (zh s.name) f.xs)->(z=qr (zg s.dir f.xs) (zh s.name (zg s.dir f.xs).es)∨(z∈f.xs/\z.ino≠s.dir))/\z.ino≠s.ino:=fun {z} hz=>by
   obtain ⟨hz,hzi⟩:=V5.1 hz
   exact ⟨(jO hs.has).1 hz,hzi⟩
  have hin:∀ {z:zy},z∈qk s.ino (qK s.dir (zh s.name) f.xs)->z∈qK s.dir (zh s.name) f.xs:=fun {z} hz=>(V5.1 hz).1
  refine ⟨kr hR1,fun x hx'=>?_,fun x hx'=>?_,fun x hx'=>?_,fun x hx' hk2=>?_,fun x hx' e hee=>?_,fun x hx'=>?_,?_,?_,?_⟩
  ·rcases hmem hx' with ⟨rfl | ⟨h,_⟩,_⟩
   ·exact hf.ino (zg s.dir f.xs) hd.2.1
   ·exact hf.ino _ h
  ·rcases hmem hx' with ⟨rfl | ⟨h,_⟩,_⟩
   ·exact hf.kind (zg s.dir f.xs) hd.2.1
   ·exact hf.kind _ h
  ·rcases hmem hx' with ⟨rfl | ⟨h,_⟩,_⟩
   ·exact JN (hf.es (zg s.dir f.xs) hd.2.1)
   ·exact hf.es _ h
  ·rcases hmem hx' with ⟨rfl | ⟨h,_⟩,_⟩
   ·exact absurd hs.kind hk2
   ·exact hf.file _ h hk2
  ·show zF e.ino (qk _ _)=true
   rw[VL,qh hs.has]
   have h1:e.ino≠s.ino:=y0 hc0 x (hin hx') e hee
   rw[decide_eq_false h1]
   show zF e.ino f.xs=true
   rcases hmem hx' with ⟨rfl | ⟨h,_⟩,_⟩
   ·exact hf.led (zg s.dir f.xs) hd.2.1 e (J2 hee).1
   ·exact hf.led _ h e hee
  ·show x.links=((JJ x.ino (qk _ _):Nat):Int)
   rw[hcnt]
   obtain ⟨h1,h2⟩:=hmem hx'
   have h3:=hc1 x.ino
   rw[if_neg fun e=>h2 e.symm]at h3
   have h4:x.links=(JJ x.ino f.xs:Int):=by
    rcases h1 with rfl | ⟨h,_⟩
    ·exact hf.links (zg s.dir f.xs) hd.2.1
    ·exact hf.links _ h
   omega
  ·show zF 1 (qk _ _)=true
   rw[VL,qh hs.has,hf.root,decide_eq_false fun e=>hr e.symm];rfl
  ·show (zg 1 (qk _ _)).kind=2
   rw[zet,if_neg fun e=>hr e.symm,JY hs.has]
   split
   ·exact hs.kind
   ·exact hf.base
  ·show JJ 1 (qk _ _)=0
   rw[hcnt]
   have:=hc1 1
   have:=hf.bare
   omega
 ·rw[if_neg hl]
  have hmem:∀ {z:zy},z∈qH { zg s.ino f.xs with links:=(zg s.ino f.xs).links-1 } (qK s.dir (zh s.name) f.xs)->z = { zg s.ino f.xs with links:=(zg s.ino f.xs).links-1 }∨z=qr (zg s.dir f.xs) (zh s.name (zg s.dir f.xs).es)∨(z∈f.xs/\z.ino≠s.dir/\z.ino≠s.ino):=fun {z} hz=>by
   rcases jE.1 hz with rfl | ⟨hz,hzi⟩
   ·exact .inl rfl
   ·have hzi:z.ino≠(zg s.ino f.xs).ino:=hzi
    rw[hx.2.2]at hzi
    rcases (jO hs.has).1 hz with rfl | ⟨hz,hzd⟩
    ·exact .inr (.inl rfl)
    ·exact .inr (.inr ⟨hz,hzd,hzi⟩)
  have hhas:∀ m,zF m (qH { zg s.ino f.xs with links:=(zg s.ino f.xs).links-1 } (qK s.dir (zh s.name) f.xs))=zF m f.xs:=fun m=>by
   rw[jW,qh hs.has]
   show (decide ((zg s.ino f.xs).ino=m)||_)=_
   rw[hx.2.2]
   by_cases h:s.ino=m
   ·rw[←h,hi];simp
   ·simp[h]
  have hcnt:∀ m,JJ m (qH { zg s.ino f.xs with links:=(zg s.ino f.xs).links-1 } (qK s.dir (zh s.name) f.xs))=JJ m (qK s.dir (zh s.name) f.xs):=fun m=>by
   have h:=V3 (m:=m) (x:={ zg s.ino f.xs with links:=(zg s.ino f.xs).links-1 }) hR1 hi1 hx.2.2
   rw[hg1]at h
   have e:JT m { zg s.ino f.xs with links:=(zg s.ino f.xs).links-1 }=JT m (zg s.ino f.xs):=rfl
   omega
  refine ⟨qd hR1,fun x hx'=>?_,fun x hx'=>?_,fun x hx'=>?_,fun x hx' hk2=>?_,fun x hx' e hee=>?_,fun x hx'=>?_,by rw[hhas];exact hf.root,?_,?_⟩
  ·rcases hmem hx' with rfl | rfl | ⟨h,_⟩
   ·exact hf.ino (zg s.ino f.xs) hx.2.1
   ·exact hf.ino (zg s.dir f.xs) hd.2.1
   ·exact hf.ino _ h
  ·rcases hmem hx' with rfl | rfl | ⟨h,_⟩
   ·exact hf.kind (zg s.ino f.xs) hx.2.1
   ·exact hf.kind (zg s.dir f.xs) hd.2.1
   ·exact hf.kind _ h
  ·rcases hmem hx' with rfl | rfl | ⟨h,_⟩
   ·exact hf.es (zg s.ino f.xs) hx.2.1
   ·exact JN (hf.es (zg s.dir f.xs) hd.2.1)
   ·exact hf.es _ h
  ·rcases hmem hx' with rfl | rfl | ⟨h,_⟩
   ·exact he
   ·exact absurd hs.kind hk2
   ·exact hf.file _ h hk2
  ·rw[hhas]
   rcases hmem hx' with rfl | rfl | ⟨h,_⟩
   ·exact hf.led (zg s.ino f.xs) hx.2.1 e hee
   ·exact hf.led (zg s.dir f.xs) hd.2.1 e (J2 hee).1
   ·exact hf.led _ h e hee
  ·rw[hcnt]
   rcases hmem hx' with rfl | rfl | ⟨h,_,hzi⟩
   ·show (zg s.ino f.xs).links-1=((JJ (zg s.ino f.xs).ino (qK s.dir (zh s.name) f.xs):Nat):Int)
    rw[hx.2.2];omega
   ·have h3:=hc1 (zg s.dir f.xs).ino
    have h4:=hf.links (zg s.dir f.xs) hd.2.1
    rw[if_neg (by rw[hd.2.2];exact fun e=>hne e.symm)]at h3
    show (zg s.dir f.xs).links=((JJ (zg s.dir f.xs).ino (qK s.dir (zh s.name) f.xs):Nat):Int)
    omega
   ·have h3:=hc1 x.ino
    rw[if_neg fun e=>hzi e.symm]at h3
    have h4:=hf.links _ h
    omega
  ·show (zg 1 (qH _ _)).kind=2
   rw[QQ,if_neg (show ¬(zg s.ino f.xs).ino=1 by rw[hx.2.2];exact hr),JY hs.has]
   split
   ·exact hs.kind
   ·exact hf.base
  ·rw[hcnt]
   have:=hc1 1
   have:=hf.bare
   omega
end
section
theorem vO {f:FsV} (hf:FsI f) {ys:List zy} (hR:qc ys) (hall:∀ z∈ys,∃ y∈f.xs,z.ino=y.ino/\z.kind=y.kind/\z.links=y.links/\JA z.es/\(z.kind≠2->z.es = [])/\∀ e∈z.es,zF e.ino f.xs=true)
  (hhas:∀ m,zF m ys=zF m f.xs) (hcnt:∀ m,JJ m ys=JJ m f.xs):FsI { f with xs:=ys }:=by
 refine ⟨hR,fun x hx=>?_,fun x hx=>?_,fun x hx=>?_,fun x hx hk=>?_,fun x hx e he=>?_,fun x hx=>?_,by rw[hhas];exact hf.root,?_,by rw[hcnt];exact hf.bare⟩
 ·obtain ⟨y,hy,e1,_⟩:=hall x hx;rw[e1];exact hf.ino y hy
 ·obtain ⟨y,hy,_,e2,_⟩:=hall x hx;rw[e2];exact hf.kind y hy
 ·obtain ⟨y,hy,_,_,_,e4,_⟩:=hall x hx;exact e4
 ·obtain ⟨y,hy,_,_,_,_,e5,_⟩:=hall x hx;exact e5 hk
 ·obtain ⟨y,hy,_,_,_,_,_,e6⟩:=hall x hx;rw[hhas];exact e6 e he
 ·obtain ⟨y,hy,e1,_,e3,_⟩:=hall x hx;rw[hcnt,e3,e1];exact hf.links y hy
 ·have h1:zF 1 ys=true:=by rw[hhas];exact hf.root
  obtain ⟨y,hy,e1,e2,_⟩:=hall _ (zk h1).2.1
  rw[(zk h1).2.2]at e1
  have e7:=(zkM hf.rises).1 hy
  rw[←e1,(zk hf.root).1]at e7
  simp only[Option.some.injEq]at e7
  show (zg 1 ys).kind=2
  rw[e2,←e7]
  exact hf.base
theorem zlF {f:FsV} (hf:FsI f) {a b:qM} (ha:qg f a) (hb:XG f b):FsI (QD f a b):=by
 have hda:=zk ha.has
 have hdb:=zk hb.has
 have hai:=qg.ino hf ha
 obtain ⟨g1,hg1⟩:∃ g1,qK a.dir (zh a.name) f.xs=g1:=⟨_,rfl⟩
 obtain ⟨g2,hg2⟩:∃ g2,qK b.dir (zY b.name a.ino) g1=g2:=⟨_,rfl⟩
 have hR1:qc g1:=by rw[←hg1];exact qd hf.rises
 have hR2:qc g2:=by rw[←hg2];exact qd hR1
 have hh1:∀ m,zF m g1=zF m f.xs:=fun m=>by rw[←hg1];exact qh ha.has
 have hb1:zF b.dir g1=true:=by rw[hh1];exact hb.has
 have hh2:∀ m,zF m g2=zF m f.xs:=fun m=>by rw[←hg2,qh hb1];exact hh1 m
 have hgb:zg b.dir g1=if a.dir=b.dir then qr (zg a.dir f.xs) (zh a.name (zg a.dir f.xs).es) else zg b.dir f.xs:=by rw[←hg1,JY ha.has]
 have hmem1:∀ {z:zy},z∈g1->z=qr (zg a.dir f.xs) (zh a.name (zg a.dir f.xs).es)∨(z∈f.xs/\z.ino≠a.dir):=fun {z} hz=>by rw[←hg1]at hz;exact (jO ha.has).1 hz
 have hmem2:∀ {z:zy},z∈g2->z=qr (zg b.dir g1) (zY b.name a.ino (zg b.dir g1).es)∨(z∈g1/\z.ino≠b.dir):=fun {z} hz=>by rw[←hg2]at hz;exact (jO hb1).1 hz
 have hal1:∀ z∈g1,∃ y∈f.xs,z.ino=y.ino/\z.kind=y.kind/\z.links=y.links/\JA z.es/\(z.kind≠2->z.es = [])/\∀ e∈z.es,zF e.ino f.xs=true:=fun z hz=>by
  rcases hmem1 hz with rfl | ⟨h,_⟩
  ·exact ⟨_,hda.2.1,rfl,rfl,rfl,JN (hf.es _ hda.2.1),fun hk=>absurd ha.kind hk,fun e he=>hf.led _ hda.2.1 e (J2 he).1⟩
  ·exact ⟨_,h,rfl,rfl,rfl,hf.es _ h,hf.file _ h,hf.led _ h⟩
 have hal2:∀ z∈g2,∃ y∈f.xs,z.ino=y.ino/\z.kind=y.kind/\z.links=y.links/\JA z.es/\(z.kind≠2->z.es = [])/\∀ e∈z.es,zF e.ino f.xs=true:=fun z hz=>by
  rcases hmem2 hz with rfl | ⟨h,_⟩
  ·obtain ⟨y,hy,e1,e2,e3,e4,e5,e6⟩:=hal1 _ (zk hb1).2.1
   refine ⟨y,hy,e1,e2,e3,Zt e4,fun hk=>?_,fun e he=>?_⟩
   ·have hk':(zg b.dir g1).kind≠2:=hk
    have:(zg b.dir g1).kind=2:=by
     rw[hgb]
     split
     ·exact ha.kind
     ·exact hb.kind
    exact absurd this hk'
   ·rcases VJ he with rfl | he
    ·exact hai
    ·exact e6 e he
  ·exact hal1 z h
 have hfree:VG b.name (zg b.dir g1).es=false:=by
  rw[hgb]
  split
  ·rename_i hab
   show VG b.name (zh a.name (zg a.dir f.xs).es)=false
   rw[Bool.eq_false_iff]
   intro h
   have h1:=Zf h
   have h2:=(J2 (j5 h1).2).1
   have h3:VG b.name (zg a.dir f.xs).es=true:=by
    unfold VG JO
    exact List.any_eq_true.2 ⟨_,h2,by simp⟩
   have:=hb.free
   rw[←hab,h3]at this
   cases this
  ·exact hb.free
 have hc1:∀ m,JJ m g1+(if a.ino=m then 1 else 0)=JJ m f.xs:=fun m=>by
  have hc:=ZH (m:=m) (F:=zh a.name) hf.rises ha.has
  have hw:JT m (zg a.dir f.xs)=JT m (qr (zg a.dir f.xs) (zh a.name (zg a.dir f.xs).es))+if a.ino=m then 1 else 0:=ZX (m:=m) (i:=a.ino) (x:=zg a.dir f.xs) (hf.es _ hda.2.1) ha.there
  rw[hg1]at hc
  omega
 have hc2:∀ m,JJ m g2=JJ m f.xs:=fun m=>by
  have hc:=ZH (m:=m) (F:=zY b.name a.ino) hR1 hb1
  obtain ⟨_,_,_,_,_,e4,_⟩:=hal1 _ (zk hb1).2.1
  have hw:JT m (qr (zg b.dir g1) (zY b.name a.ino (zg b.dir g1).es))=JT m (zg b.dir g1)+if a.ino=m then 1 else 0:=Za (m:=m) (i:=a.ino) (x:=zg b.dir g1) e4 hfree
  have:=hc1 m
  rw[hg2]at hc
  omega
 have key:FsI { f with xs:=g2 }:=vO hf hR2 hal2 hh2 hc2
 unfold QD
 rw[hg1,hg2]
 show FsI (if (zg a.ino g2).kind=2 then _ else _)
 split
 ·have hia:zF a.ino g2=true:=by rw[hh2];exact hai
  have hx:=zk hia
  refine vO hf (qd hR2) (fun z hz=>?_) (fun m=>?_) (fun m=>?_)
  ·rcases jE.1 hz with rfl | ⟨hz,_⟩
   ·exact hal2 (zg a.ino g2) hx.2.1
   ·exact hal2 z hz
  ·rw[jW]
   show (decide ((zg a.ino g2).ino=m)||_)=_
   rw[hx.2.2,hh2]
   by_cases h:a.ino=m
   ·rw[←h,hai];simp
   ·simp[h]
  ·have h:=V3 (m:=m) (x:={ zg a.ino g2 with parent:=b.dir }) hR2 hia hx.2.2
   have e:JT m { zg a.ino g2 with parent:=b.dir }=JT m (zg a.ino g2):=rfl
   have:=hc2 m
   omega
 ·exact key
theorem zi3 {f:FsV} (hf:FsI f):∀ (ns:List (List UInt8)) (s:qM),(s.ino≠0->zF s.ino f.xs=true)->(atW f.xs ns s).2=0->ns≠[] ->
  zF (atW f.xs ns s).1.dir f.xs=true/\(zg (atW f.xs ns s).1.dir f.xs).kind=2/\(atW f.xs ns s).1.ino=jN (atW f.xs ns s).1.name (zg (atW f.xs ns s).1.dir f.xs).es/\(atW f.xs ns s).1.name∈ns
 | [],s,_,_,h=>absurd rfl h
 | n :: r,s,hs,h0,_=>by
  unfold atW at h0 ⊢
  by_cases h1:s.ino=0
  ·rw[if_pos h1]at h0;cases h0
  rw[if_neg h1]at h0 ⊢
  by_cases h2:(zg s.ino f.xs).kind≠2
  ·rw[if_pos h2]at h0;cases h0
  rw[if_neg h2]at h0 ⊢
  have h2:(zg s.ino f.xs).kind=2:=Classical.not_not.1 h2
  have hg:=zk (hs h1)
  have hnx:jN n (zg s.ino f.xs).es≠0->zF (jN n (zg s.ino f.xs).es) f.xs=true:=fun hne=>by
   have hh:VG n (zg s.ino f.xs).es=true:=by
    unfold VG
    rw[jB]
    cases hq:Ji zZ.name n (zg s.ino f.xs).es with
    | some e=>rfl
    | none=>unfold jN at hne;rw[hq]at hne;exact absurd rfl hne
   exact hf.led _ hg.2.1 _ (j5 (Zf hh)).2
  cases r with
  | nil =>
   unfold atW
   rw[hg.2.2]
   exact ⟨hs h1,h2,rfl,List.mem_cons_self⟩
  | cons m r =>
   obtain ⟨i1,i2,i3,i4⟩:=zi3 hf (m :: r) ⟨(zg s.ino f.xs).ino,n,jN n (zg s.ino f.xs).es⟩ hnx h0 (by simp)
   exact ⟨i1,i2,i3,List.mem_cons_of_mem _ i4⟩
theorem zdO {f:FsV} (hf:FsI f):∀ (ns:List (List UInt8)) (s:qM),(s.ino≠0->zF s.ino f.xs=true)->(atW f.xs ns s).1.ino≠0->zF (atW f.xs ns s).1.ino f.xs=true
 | [],s,hs,h=>hs h
 | n :: r,s,hs,h=>by
  unfold atW at h ⊢
  by_cases h1:s.ino=0
  ·rw[if_pos h1]at h;exact absurd rfl h
  rw[if_neg h1]at h ⊢
  by_cases h2:(zg s.ino f.xs).kind≠2
  ·rw[if_pos h2]at h;exact absurd rfl h
  rw[if_neg h2]at h ⊢
  have hg:=zk (hs h1)
  refine zdO hf r _ (fun hne=>?_) h
  have hne:jN n (zg s.ino f.xs).es≠0:=hne
  have hh:VG n (zg s.ino f.xs).es=true:=by
   unfold VG
   rw[jB]
   cases hq:Ji zZ.name n (zg s.ino f.xs).es with
   | some e=>rfl
   | none=>unfold jN at hne;rw[hq]at hne;exact absurd rfl hne
  exact hf.led _ hg.2.1 _ (j5 (Zf hh)).2
end
section
structure Xc (w:qv):Prop where
 fs:FsI w.fs
 kept:qF jD zN.slot w.kept
 pool:qc w.pool
 apart:∀ x∈w.pool,zF x.ino w.fs.xs=false/\x.ino<w.fs.next
theorem zb1 {f:FsV} (hf:FsI f) {n:Int} (h:zF n f.xs=true):n≠0:=fun e=>by
 have:=(hf.ino _ (zk h).2.1).1
 rw[(zk h).2.2]at this
 omega
theorem ym {f:FsV} (hf:FsI f) {d:Int} (hd:zF d f.xs=true) {n:List UInt8} (h:VG n (zg d f.xs).es=true):zF (jN n (zg d f.xs).es) f.xs=true:=
 hf.led _ (zk hd).2.1 _ (j5 (Zf h)).2
theorem zjp {f:FsV} (hf:FsI f) {p:List UInt8} (hp:zO p=true) (h:(atV f p).2=0) :
  zF (atV f p).1.dir f.xs=true/\(zg (atV f p).1.dir f.xs).kind=2/\(atV f p).1.ino=jN (atV f p).1.name (zg (atV f p).1.dir f.xs).es/\(atV f p).1.name∈zJ p:=by
 unfold zO at hp
 simp only[Bool.and_eq_true,Bool.not_eq_true',decide_eq_false_iff_not]at hp
 unfold atV at h ⊢
 rw[if_pos hp.1]at h ⊢
 exact zi3 hf (zJ p) ⟨0,[],1⟩ (fun _=>hf.root) h hp.2
theorem jK {f:FsV} (hf:FsI f) {p:List UInt8} (hp:zO p=true) (h:(isV f p true).2.2=0):qg f (isV f p true).1/\(isV f p true).2.1=zg (isV f p true).1.ino f.xs:=by
 unfold isV at h ⊢
 simp only at h ⊢
 by_cases h0:(atV f p).2≠0
 ·rw[if_pos h0]at h;exact absurd h h0
 rw[if_neg h0]at h
 have h0:(atV f p).2=0:=Classical.not_not.1 h0
 obtain ⟨a1,a2,a3,_⟩:=zjp hf hp h0
 refine ⟨⟨a1,a2,?_⟩,trivial⟩
 have hh:zF (atV f p).1.ino f.xs=true:=by
  cases hq:zF (atV f p).1.ino f.xs with
  | true=>rfl
  | false=>rw[hq]at h;simp at h
 have he:VG (atV f p).1.name (zg (atV f p).1.dir f.xs).es=true:=by
  unfold VG
  rw[jB]
  cases hq:Ji zZ.name (atV f p).1.name (zg (atV f p).1.dir f.xs).es with
  | some e=>rfl
  | none =>
   unfold jN at a3
   rw[hq]at a3
   exact absurd a3 (zb1 hf hh)
 rw[Zf he,←a3]
theorem JF {f:FsV} (hf:FsI f) {p:List UInt8} (hp:zO p=true) (h:(isV f p false).2.2=0):XG f (isV f p false).1:=by
 unfold isV at h ⊢
 simp only at h ⊢
 by_cases h0:(atV f p).2≠0
 ·rw[if_pos h0]at h;exact absurd h h0
 rw[if_neg h0]at h
 have h0:(atV f p).2=0:=Classical.not_not.1 h0
 obtain ⟨a1,a2,a3,_⟩:=zjp hf hp h0
 refine ⟨a1,a2,?_⟩
 have hh:zF (atV f p).1.ino f.xs=false:=by
  cases hq:zF (atV f p).1.ino f.xs with
  | false=>rfl
  | true=>rw[hq]at h;simp at h
 rw[Bool.eq_false_iff]
 intro he
 have:=ym hf a1 he
 rw[←a3,hh]at this
 cases this
theorem X0 {o:OpV} (h:Vn o=true):zO o.a=true/\(zeI o.kind=true->zO o.b=true)/\1<=o.kind/\o.kind<=10:=by
 unfold Vn at h
 simp only[Bool.and_eq_true,decide_eq_true_eq]at h
 obtain ⟨⟨⟨⟨⟨⟨h1,h2⟩,h3⟩,h4⟩,h5⟩,h6⟩,h7⟩:=h
 exact ⟨h3,fun hb=>by rw[if_pos hb]at h5;exact h5,h1,h2⟩
theorem zkW {w:qv} (hw:Xc w) {g:FsV} (hg:FsI g) (hn:w.fs.next<=g.next) (hh:∀ x∈w.pool,zF x.ino g.xs=false):Xc { w with fs:=g }:=
 ⟨hg,hw.kept,hw.pool,fun x hx=>⟨hh x hx,by have:=(hw.apart x hx).2;show x.ino<g.next;omega⟩⟩
theorem kV (f:FsV) (s:qM) (k:Int) (t:List UInt8):(Zj f s k t).1=f∨(Zj f s k t).1=zab f s k t:=by
 unfold Zj
 by_cases h1:may s.name=true
 ·rw[if_pos h1]
  by_cases h2:Jl f 1 (if k=1 then (t.length:Int) else 0)=true
  ·rw[if_pos h2];exact .inr rfl
  ·rw[if_neg h2];exact .inl rfl
 ·rw[if_neg h1];exact .inl rfl
theorem MZ {w:qv} (hw:Xc w) {p:List UInt8} (hp:zO p=true) {k:Int} (hk:k=1∨k=2∨k=3) (t:List UInt8):Xc (Je w p k t).1:=by
 unfold Je
 by_cases h:(isV w.fs p false).2.2≠0
 ·rw[if_pos h];exact hw
 rw[if_neg h]
 have hs:=JF hw.fs hp (Classical.not_not.1 h)
 refine zkW hw (zmV hw.fs hs k hk t) ?_ ?_
 ·rcases kV w.fs (isV w.fs p false).1 k t with e | e
  ·rw[e];exact Int.le_refl _
  ·rw[e];show w.fs.next<=w.fs.next+1;omega
 ·intro x hx
  obtain ⟨a1,a2⟩:=hw.apart x hx
  rcases kV w.fs (isV w.fs p false).1 k t with e | e
  ·rw[e];exact a1
  ·rw[e]
   show zF x.ino (qH _ _)=false
   rw[jW,qh hs.has,a1]
   show (decide (w.fs.next=x.ino)||false)=false
   rw[decide_eq_false (by omega)];rfl
theorem Qj {f:FsV} (hf:FsI f) {p:List UInt8} (hp:zO p=true) (h:(zM f p).2=0):zF (zM f p).1.ino f.xs=true/\(zM f p).1.kind=1/\(zM f p).1=zg (zM f p).1.ino f.xs:=by
 unfold zM at h ⊢
 simp only at h ⊢
 by_cases h0:(isV f p true).2.2≠0
 ·rw[if_pos h0]at h;exact absurd h h0
 rw[if_neg h0]at h
 obtain ⟨h1,h2⟩:=jK hf hp (Classical.not_not.1 h0)
 have hi:=qg.ino hf h1
 have hg:=zk hi
 rw[h2]at h ⊢
 rw[hg.2.2]
 refine ⟨hi,?_,rfl⟩
 have hk:=hf.kind _ hg.2.1
 by_cases h3:(zg (isV f p true).1.ino f.xs).kind=2
 ·rw[if_pos h3]at h;cases h
 rw[if_neg h3]at h
 by_cases h4:(zg (isV f p true).1.ino f.xs).kind=3
 ·rw[if_pos h4]at h;cases h
 omega
theorem zc4 {k:zN} {ks:List zN} (h:qF jD zN.slot ks) (hn:UV k.slot ks=false):qF jD zN.slot (qu k ks):=
 Zo h fun y hy e=>by
  unfold UV JO at hn
  rw[List.any_eq_false]at hn
  exact hn y hy (by simpa using e)
theorem kp {f:FsV} {s:qM} (h:zF s.dir f.xs=true) (hi:zF s.ino f.xs=true) (m:Int):zF m (zR f s).xs=if (zg s.ino f.xs).links-1=0 then (!decide (m=s.ino)&&zF m f.xs) else zF m f.xs:=by
 unfold zR
 split
 ·show zF m (qk _ _)=_
  rw[VL,qh h]
 ·show zF m (qH _ _)=_
  rw[jW,qh h]
  show (decide ((zg s.ino f.xs).ino=m)||_)=_
  rw[(zk hi).2.2]
  by_cases e:s.ino=m
  ·rw[←e,hi];simp
  ·simp[e]
theorem M6 (f:FsV) (s:qM):(zR f s).next=f.next:=by unfold zR;split<;>rfl
theorem zjH {w:qv} (hw:Xc w) {n:Int} {s:qM} (hs:qg w.fs s) (he:(zg s.ino w.fs.xs).es = []):Xc (JM w n s).1:=by
 unfold JM
 cases hn:UV n w.kept with
 | true=>rw[if_pos rfl];exact hw
 | false =>
  rw[if_neg (by simp)]
  have hi:=qg.ino hw.fs hs
  have hg:=zk hi
  have hf:=GY hw.fs hs he
  refine ⟨hf,zc4 hw.kept hn,?_,fun x hx=>?_⟩
  ·show qc (if _ then _ else _)
   split
   ·exact qd hw.pool
   ·exact hw.pool
  ·show zF x.ino (zR w.fs s).xs=false/\x.ino<(zR w.fs s).next
   rw[kp hs.has hi,M6]
   have hx:x∈(if (zg s.ino w.fs.xs).links=1 then qH { zg s.ino w.fs.xs with links:=0,parent:=0 } w.pool else w.pool):=hx
   by_cases h1:(zg s.ino w.fs.xs).links=1
   ·rw[if_pos h1]at hx
    rw[if_pos (by omega)]
    rcases jE.1 hx with rfl | ⟨hx,_⟩
    ·refine ⟨?_,?_⟩
     ·show (!decide ((zg s.ino w.fs.xs).ino=s.ino)&&_)=false
      rw[hg.2.2];simp
     ·exact (hw.fs.ino _ hg.2.1).2
    ·obtain ⟨a1,a2⟩:=hw.apart x hx
     rw[a1,Bool.and_false]
     exact ⟨rfl,a2⟩
   ·rw[if_neg h1]at hx
    rw[if_neg (by omega)]
    exact hw.apart x hx
theorem zpn {w:qv} (hw:Xc w) (o:OpV) (hk:o.kind<=7):Xc (doV w o).1:=by
 unfold doV
 cases hm:Vn o with
 | false=>exact hw
 | true =>
  obtain ⟨p1,p2,k1,_⟩:=X0 hm
  rw[if_neg (by simp)]
  by_cases h1:o.kind=1
  ·rw[if_pos h1];exact MZ hw p1 (.inr (.inl rfl)) []
  rw[if_neg h1]
  by_cases h2:o.kind=2
  ·rw[if_pos h2]
   unfold j4
   split
   ·exact hw
   ·exact MZ hw (p2 (by rw[h2];rfl)) (.inl rfl) _
  rw[if_neg h2]
  by_cases h3:o.kind=3
  ·rw[if_pos h3]
   have pb:=p2 (by rw[h3];rfl)
   unfold zT
   split
   ·exact hw
   ·split
    ·exact hw
    ·rename_i hfb
     have hfb:=Qj hw.fs pb (Classical.not_not.1 hfb)
     split
     ·exact hw
     ·split
      ·exact hw
      ·rename_i hkd
       split
       ·exact hw
       ·rename_i hda
        have hkd:=Classical.not_not.1 hkd
        have hda:=Classical.not_not.1 hda
        unfold zV at hkd ⊢
        cases hn:UV o.slot w.kept with
        | true=>rw[hn]at hkd;simp at hkd
        | false =>
         rw[if_neg (by simp)]
         unfold Ye at hda ⊢
         by_cases hr:Jl w.fs 0 (((zM w.fs o.a).1.data.length:Int)-(zg (zM w.fs o.b).1.ino w.fs.xs).data.length)=true
         ·rw[if_pos hr]
          have hfi:=zj9 hw.fs hfb.1 (zM w.fs o.a).1.data
          refine ⟨hfi,zc4 hw.kept hn,hw.pool,fun x hx=>⟨?_,(hw.apart x hx).2⟩⟩
          show zF x.ino (qH _ _)=false
          rw[jW,(hw.apart x hx).1]
          show (decide ((zg (zM w.fs o.b).1.ino w.fs.xs).ino=x.ino)||false)=false
          rw[(zk hfb.1).2.2,Bool.or_false,decide_eq_false_iff_not]
          intro e
          have:=(hw.apart x hx).1
          rw[←e,hfb.1]at this
          cases this
         ·rw[if_neg hr]at hda;cases hda
  rw[if_neg h3]
  by_cases h4:o.kind=4
  ·rw[if_pos h4];exact MZ hw p1 (.inr (.inr rfl)) _
  rw[if_neg h4]
  by_cases h5:o.kind=5
  ·rw[if_pos h5]
   have pb:=p2 (by rw[h5];rfl)
   unfold qJ
   simp only
   split
   ·exact hw
   ·rename_i ha
    obtain ⟨t1,t2⟩:=jK hw.fs p1 (Classical.not_not.1 ha)
    split
    ·exact hw
    ·rename_i hkd
     split
     ·exact hw
     ·rename_i hb
      have hfree:=JF hw.fs pb (Classical.not_not.1 hb)
      have hi:=qg.ino hw.fs t1
      rw[t2]at hkd
      have e:(isV w.fs o.a true).2.1.ino=(isV w.fs o.a true).1.ino:=by rw[t2,(zk hi).2.2]
      rw[e]
      have hfi:=zkH hw.fs hfree hi hkd
      refine zkW hw hfi (Int.le_refl _) fun x hx=>?_
      show zF x.ino (qH _ _)=false
      rw[jW,qh hfree.has,(hw.apart x hx).1]
      show (decide ((zg (isV w.fs o.a true).1.ino w.fs.xs).ino=x.ino)||false)=false
      rw[(zk hi).2.2,Bool.or_false,decide_eq_false_iff_not]
      intro e2
      have:=(hw.apart x hx).1
      rw[←e2,hi]at this
      cases this
  rw[if_neg h5]
  by_cases h6:o.kind=6
  ·rw[if_pos h6]
   have pb:=p2 (by rw[h6];rfl)
   unfold Jf
   split
   ·exact hw
   ·rename_i ha
    split
    ·exact hw
    ·rename_i hb
     obtain ⟨t1,t2⟩:=jK hw.fs p1 (Classical.not_not.1 ha)
     have hfree:=JF hw.fs pb (Classical.not_not.1 hb)
     have hmv:=zlF hw.fs t1 hfree
     refine zkW hw hmv ?_ fun x hx=>?_
     ·unfold QD;simp only;split<;>exact Int.le_refl _
     ·have hi:=qg.ino hw.fs t1
      have hb1:zF (isV w.fs o.b false).1.dir (qK (isV w.fs o.a true).1.dir (zh (isV w.fs o.a true).1.name) w.fs.xs)=true:=by rw[qh t1.has];exact hfree.has
      have h2:∀ m,zF m (qK (isV w.fs o.b false).1.dir (zY (isV w.fs o.b false).1.name (isV w.fs o.a true).1.ino) (qK (isV w.fs o.a true).1.dir (zh (isV w.fs o.a true).1.name) w.fs.xs))=zF m w.fs.xs:=fun m=>by rw[qh hb1,qh t1.has]
      unfold QD
      simp only
      split
      ·show zF x.ino (qH _ _)=false
       have hi2:=h2 (isV w.fs o.a true).1.ino
       rw[hi]at hi2
       rw[jW,h2,(hw.apart x hx).1]
       show (decide ((zg (isV w.fs o.a true).1.ino _).ino=x.ino)||false)=false
       rw[(zk hi2).2.2,Bool.or_false,decide_eq_false_iff_not]
       intro e2
       have:=(hw.apart x hx).1
       rw[←e2,hi]at this
       cases this
      ·show zF x.ino (qK _ _ _)=false
       rw[h2];exact (hw.apart x hx).1
  rw[if_neg h6]
  unfold qt
  simp only
  split
  ·exact hw
  ·rename_i ha
   split
   ·exact hw
   ·rename_i hes
    obtain ⟨t1,t2⟩:=jK hw.fs p1 (Classical.not_not.1 ha)
    rw[t2]at hes
    exact zjH hw t1 (Classical.not_not.1 hes)
end
section
def km (N:Nat) (x:zy):Prop:=x.es.length<=N/\x.data.length<=5000/\∀ e∈x.es,e.name.length<=300
structure zbo (N:Nat) (w:qv):Prop where
 len:w.fs.xs.length<=N
 node:∀ x∈w.fs.xs,km N x
 klen:w.kept.length<=N
 kdata:∀ k∈w.kept,k.data.length<=5000
 plen:w.pool.length<=N
 pnode:∀ x∈w.pool,km N x
 next:w.fs.next<=1099511627776+N
 room:w.fs.maxI<=1073741824/\w.fs.maxB<=1073741824/\-1073741824<=w.fs.maxI/\-1073741824<=w.fs.maxB
theorem km.up {N:Nat} {x:zy} (h:km N x):km (N+1) x:=⟨Nat.le_succ_of_le h.1,h.2⟩
theorem zbo.up {N:Nat} {w:qv} (h:zbo N w):zbo (N+1) w:=
 ⟨Nat.le_succ_of_le h.len,fun x hx=>(h.node x hx).up,Nat.le_succ_of_le h.klen,h.kdata,Nat.le_succ_of_le h.plen,fun x hx=>(h.pnode x hx).up,by have:=h.next;omega,h.room⟩
theorem xC {n:List UInt8} (h:may n=true):n.length<=255:=by
 unfold may at h
 simp only[Bool.and_eq_true,decide_eq_true_eq]at h
 exact h.1.1.1.2
theorem zcZ (n:List UInt8) (i:Int) (es:List zZ):(zY n i es).length<=es.length+1:=by
 unfold zY
 rw[VF]
 have:=YE (key:=zZ.name) n es
 omega
theorem UF {N:Nat} {x:zy} (h:km N x) {n:List UInt8} (hn:n.length<=300) (i:Int):km (N+1) (qr x (zY n i x.es)):=by
 refine ⟨?_,h.2.1,fun e he=>?_⟩
 ·have:=zcZ n i x.es
  have:=h.1
  show (zY n i x.es).length<=N+1
  omega
 ·rcases VJ he with rfl | he
  ·exact hn
  ·exact h.2.2 e he
theorem Va {N:Nat} {x:zy} (h:km N x) (n:List UInt8):km N (qr x (zh n x.es)):=by
 refine ⟨?_,h.2.1,fun e he=>h.2.2 e (J2 he).1⟩
 have:=YE (key:=zZ.name) n x.es
 have:=h.1
 show (JE zZ.name n x.es).length<=N
 omega
theorem jG {N:Nat} {xs:List zy} (h:∀ x∈xs,km N x) {n:Int} (hh:zF n xs=true):km N (zg n xs):=h _ (zk hh).2.1
theorem Zq {N:Nat} {xs:List zy} {x:zy} (h:∀ x∈xs,km N x) (hx:km N x):∀ z∈qH x xs,km N z:=fun z hz=>by
 rcases jE.1 hz with rfl | ⟨hz,_⟩
 ·exact hx
 ·exact h z hz
theorem XS {x:zy} {xs:List zy} (hR:qc xs) (hh:zF x.ino xs=true):(qH x xs).length=xs.length:=by rw[←MY hR hh];simp
theorem jM {xs:List zy} {n:Int} {F:List zZ->List zZ} (hR:qc xs) (hh:zF n xs=true):(qK n F xs).length=xs.length:=by
 unfold qK
 refine XS hR ?_
 show zF (zg n xs).ino xs=true
 rw[(zk hh).2.2];exact hh
theorem y7 {f:FsV} (hf:FsI f) {p:List UInt8} (hp:zO p=true) (h:(atV f p).2=0):(atV f p).1.name.length<=300:=by
 have h1:=(zjp hf hp h).2.2.2
 unfold zO Yk at hp
 simp only[Bool.and_eq_true]at hp
 have:=xC (List.all_eq_true.1 hp.1.2 _ h1)
 omega
theorem Zz {f:FsV} {p:List UInt8} {b:Bool} (h:(isV f p b).2.2=0):(atV f p).2=0:=by
 unfold isV at h
 simp only at h
 by_cases h0:(atV f p).2≠0
 ·rw[if_pos h0]at h;exact h
 ·exact Classical.not_not.1 h0
theorem zlh {N:Nat} {w:qv} (hw:Xc w) (hb:zbo N w) {p:List UInt8} (hp:zO p=true) {k:Int} {t:List UInt8} (ht:t.length<=5000):zbo (N+1) (Je w p k t).1:=by
 unfold Je
 by_cases h:(isV w.fs p false).2.2≠0
 ·rw[if_pos h];exact hb.up
 rw[if_neg h]
 have h:=Classical.not_not.1 h
 have hs:=JF hw.fs hp h
 unfold Zj
 by_cases h1:may (isV w.fs p false).1.name=true
 ·rw[if_pos h1]
  by_cases h2:Jl w.fs 1 (if k=1 then (t.length:Int) else 0)=true
  ·rw[if_pos h2]
   have hl:=xC h1
   refine ⟨?_,?_,by have:=hb.klen;show w.kept.length<=N+1;omega,hb.kdata,by have:=hb.plen;show w.pool.length<=N+1;omega,fun x hx=>(hb.pnode x hx).up,?_,hb.room⟩
   ·show (qH _ _).length<=N+1
    refine Nat.le_trans zer ?_
    rw[jM hw.fs.rises hs.has]
    have:=hb.len;omega
   ·refine Zq (fun z hz=>?_) ⟨Nat.zero_le _,ht,fun e he=>by cases he⟩
    rcases (jO hs.has).1 hz with rfl | ⟨hz,_⟩
    ·exact UF (jG hb.node hs.has) (by omega) _
    ·exact (hb.node z hz).up
   ·show w.fs.next+1<=_
    have:=hb.next;omega
  ·rw[if_neg h2];exact hb.up
 ·rw[if_neg h1];exact hb.up
theorem fsB {N:Nat} {w:qv} (hb:zbo N w) {g:FsV} (h1:g.xs.length<=N+1) (h2:∀ x∈g.xs,km (N+1) x) (h3:g.next=w.fs.next) (h4:g.maxI=w.fs.maxI/\g.maxB=w.fs.maxB):zbo (N+1) { w with fs:=g }:=
 ⟨h1,h2,Nat.le_succ_of_le hb.klen,hb.kdata,Nat.le_succ_of_le hb.plen,fun x hx=>(hb.pnode x hx).up,by show g.next<=_;rw[h3];have:=hb.next;omega,by show g.maxI<=_/\g.maxB<=_/\_<=g.maxI/\_<=g.maxB;rw[h4.1,h4.2];exact hb.room⟩
theorem G4 (k:zN) (ks:List zN):(qu k ks).length=ks.length+1:=VF k ks
theorem zkQ {N:Nat} {f:FsV} (hf:FsI f) (h1:f.xs.length<=N) (h2:∀ x∈f.xs,km N x) {s:qM} (hs:qg f s):(zR f s).xs.length<=N/\(∀ x∈(zR f s).xs,km N x)/\(zR f s).next=f.next/\(zR f s).maxI=f.maxI/\(zR f s).maxB=f.maxB:=by
 have hi:=qg.ino hf hs
 have hd:∀ z∈qK s.dir (zh s.name) f.xs,km N z:=fun z hz=>by
  rcases (jO hs.has).1 hz with rfl | ⟨hz,_⟩
  ·exact Va (jG h2 hs.has) _
  ·exact h2 z hz
 have hl:=jM (F:=zh s.name) hf.rises hs.has
 unfold zR
 split
 ·refine ⟨?_,fun x hx=>hd x (V5.1 hx).1,rfl,rfl,rfl⟩
  show (qk _ _).length<=N
  exact Nat.le_trans Q9 (by rw[hl];exact h1)
 ·refine ⟨?_,Zq hd (jG h2 hi),rfl,rfl,rfl⟩
  show (qH _ _).length<=N
  rw[XS (show qc (qK s.dir (zh s.name) f.xs) from qd hf.rises) ?_,hl]
  ·exact h1
  ·show zF (zg s.ino f.xs).ino (qK _ _ _)=true
   rw[(zk hi).2.2,qh hs.has];exact hi
theorem doB {N:Nat} {w:qv} (hw:Xc w) (hb:zbo N w) (o:OpV) (hd:o.d.length<=5000) (hk:o.kind<=7):zbo (N+1) (doV w o).1:=by
 unfold doV
 cases hm:Vn o with
 | false=>exact hb.up
 | true =>
  obtain ⟨p1,p2,k1,_⟩:=X0 hm
  rw[if_neg (by simp)]
  by_cases h1:o.kind=1
  ·rw[if_pos h1];exact zlh hw hb p1 (by simp)
  rw[if_neg h1]
  by_cases h2:o.kind=2
  ·rw[if_pos h2]
   unfold j4
   split
   ·exact hb.up
   ·rename_i hfa
    have hfa:=Qj hw.fs p1 (Classical.not_not.1 hfa)
    refine zlh hw hb (p2 (by rw[h2];rfl)) ?_
    rw[hfa.2.2]
    exact (jG hb.node hfa.1).2.1
  rw[if_neg h2]
  by_cases h3:o.kind=3
  ·rw[if_pos h3]
   have pb:=p2 (by rw[h3];rfl)
   unfold zT
   split
   ·exact hb.up
   ·rename_i hfa
    have hfa:=Qj hw.fs p1 (Classical.not_not.1 hfa)
    split
    ·exact hb.up
    ·rename_i hfb
     have hfb:=Qj hw.fs pb (Classical.not_not.1 hfb)
     split
     ·exact hb.up
     ·split
      ·exact hb.up
      ·rename_i hkd
       split
       ·exact hb.up
       ·rename_i hda
        have hkd:=Classical.not_not.1 hkd
        have hda:=Classical.not_not.1 hda
        unfold zV at hkd ⊢
        cases hn:UV o.slot w.kept with
        | true=>rw[hn]at hkd;simp at hkd
        | false =>
         rw[if_neg (by simp)]
         unfold Ye at hda ⊢
         by_cases hr:Jl w.fs 0 (((zM w.fs o.a).1.data.length:Int)-(zg (zM w.fs o.b).1.ino w.fs.xs).data.length)=true
         ·rw[if_pos hr]
          have hg:=zk hfb.1
          refine ⟨?_,?_,?_,fun k hk=>?_,Nat.le_succ_of_le hb.plen,fun x hx=>(hb.pnode x hx).up,by have:=hb.next;show w.fs.next<=_;omega,hb.room⟩
          ·show (qH _ _).length<=N+1
           rw[XS hw.fs.rises (by show zF (zg _ _).ino _=true;rw[hg.2.2];exact hfb.1)]
           exact Nat.le_succ_of_le hb.len
          ·refine Zq (fun z hz=>(hb.node z hz).up) ?_
           have h7:=(jG hb.node hfb.1).up
           refine ⟨h7.1,?_,h7.2.2⟩
           show (zM w.fs o.a).1.data.length<=5000
           rw[hfa.2.2]
           exact (jG hb.node hfa.1).2.1
          ·show (qu _ _).length<=N+1
           rw[G4]
           have:=hb.klen;omega
          ·rcases QT.1 hk with rfl | hk
           ·exact (jG hb.node hfb.1).2.1
           ·exact hb.kdata k hk
         ·rw[if_neg hr]at hda;cases hda
  rw[if_neg h3]
  by_cases h4:o.kind=4
  ·rw[if_pos h4];exact zlh hw hb p1 hd
  rw[if_neg h4]
  by_cases h5:o.kind=5
  ·rw[if_pos h5]
   have pb:=p2 (by rw[h5];rfl)
   unfold qJ
   simp only
   split
   ·exact hb.up
   ·rename_i ha
    obtain ⟨t1,t2⟩:=jK hw.fs p1 (Classical.not_not.1 ha)
    split
    ·exact hb.up
    ·split
     ·exact hb.up
     ·rename_i hb2
      have hb2:=Classical.not_not.1 hb2
      have hfree:=JF hw.fs pb hb2
      have hi:=qg.ino hw.fs t1
      have e:(isV w.fs o.a true).2.1.ino=(isV w.fs o.a true).1.ino:=by rw[t2,(zk hi).2.2]
      rw[e]
      have hln:=y7 hw.fs pb (Zz hb2)
      refine fsB hb ?_ ?_ rfl ⟨rfl,rfl⟩
      ·show (qH _ _).length<=N+1
       rw[XS (show qc (qK (isV w.fs o.b false).1.dir (zY (isV w.fs o.b false).1.name (isV w.fs o.a true).1.ino) w.fs.xs) from qd hw.fs.rises) (by show zF (zg _ _).ino _=true;rw[(zk hi).2.2,qh hfree.has];exact hi),jM hw.fs.rises hfree.has]
       exact Nat.le_succ_of_le hb.len
      ·refine Zq (fun z hz=>?_) (jG hb.node hi).up
       rcases (jO hfree.has).1 hz with rfl | ⟨hz,_⟩
       ·exact UF (jG hb.node hfree.has) hln _
       ·exact (hb.node z hz).up
  rw[if_neg h5]
  by_cases h6:o.kind=6
  ·rw[if_pos h6]
   have pb:=p2 (by rw[h6];rfl)
   unfold Jf
   split
   ·exact hb.up
   ·rename_i ha
    split
    ·exact hb.up
    ·rename_i hb2
     have hb2:=Classical.not_not.1 hb2
     obtain ⟨t1,t2⟩:=jK hw.fs p1 (Classical.not_not.1 ha)
     have hfree:=JF hw.fs pb hb2
     have hi:=qg.ino hw.fs t1
     have hln:=y7 hw.fs pb (Zz hb2)
     obtain ⟨g1,hg1⟩:∃ g1,qK (isV w.fs o.a true).1.dir (zh (isV w.fs o.a true).1.name) w.fs.xs=g1:=⟨_,rfl⟩
     obtain ⟨g2,hg2⟩:∃ g2,qK (isV w.fs o.b false).1.dir (zY (isV w.fs o.b false).1.name (isV w.fs o.a true).1.ino) g1=g2:=⟨_,rfl⟩
     have hR1:qc g1:=by rw[←hg1];exact qd hw.fs.rises
     have hb1:zF (isV w.fs o.b false).1.dir g1=true:=by rw[←hg1,qh t1.has];exact hfree.has
     have hn1:∀ z∈g1,km N z:=fun z hz=>by
      rw[←hg1]at hz
      rcases (jO t1.has).1 hz with rfl | ⟨hz,_⟩
      ·exact Va (jG hb.node t1.has) _
      ·exact hb.node z hz
     have hn2:∀ z∈g2,km (N+1) z:=fun z hz=>by
      rw[←hg2]at hz
      rcases (jO hb1).1 hz with rfl | ⟨hz,_⟩
      ·exact UF (jG hn1 hb1) hln _
      ·exact (hn1 z hz).up
     have hl2:g2.length=w.fs.xs.length:=by rw[←hg2,jM hR1 hb1,←hg1,jM hw.fs.rises t1.has]
     have hi2:zF (isV w.fs o.a true).1.ino g2=true:=by rw[←hg2,qh hb1,←hg1,qh t1.has];exact hi
     have hR2:qc g2:=by rw[←hg2];exact qd hR1
     unfold QD
     rw[hg1,hg2]
     simp only
     split
     ·refine fsB hb ?_ (Zq hn2 (jG hn2 hi2)) rfl ⟨rfl,rfl⟩
      show (qH _ _).length<=N+1
      rw[XS hR2 (by show zF (zg _ _).ino _=true;rw[(zk hi2).2.2];exact hi2),hl2]
      exact Nat.le_succ_of_le hb.len
     ·refine fsB hb ?_ hn2 rfl ⟨rfl,rfl⟩
      show g2.length<=N+1
      rw[hl2];exact Nat.le_succ_of_le hb.len
  rw[if_neg h6]
  unfold qt
  simp only
  split
  ·exact hb.up
  ·rename_i ha
   split
   ·exact hb.up
   ·obtain ⟨t1,t2⟩:=jK hw.fs p1 (Classical.not_not.1 ha)
    have hi:=qg.ino hw.fs t1
    unfold JM
    split
    ·exact hb.up
    ·obtain ⟨u1,u2,u3,u4,u5⟩:=zkQ hw.fs hb.len hb.node t1
     refine ⟨Nat.le_succ_of_le u1,fun x hx=>(u2 x hx).up,?_,fun k hk=>?_,?_,fun x hx=>?_,?_,?_⟩
     ·show (qu _ _).length<=N+1
      rw[G4]
      have:=hb.klen;omega
     ·rcases QT.1 hk with rfl | hk
      ·exact Nat.zero_le _
      ·exact hb.kdata k hk
     ·show (if _ then _ else _:List zy).length<=N+1
      split
      ·exact Nat.le_trans zer (by have:=hb.plen;omega)
      ·exact Nat.le_succ_of_le hb.plen
     ·have hx:x∈(if (zg (isV w.fs o.a true).1.ino w.fs.xs).links=1 then qH { zg (isV w.fs o.a true).1.ino w.fs.xs with links:=0,parent:=0 } w.pool else w.pool):=hx
      split at hx
      ·exact Zq (x:={ zg (isV w.fs o.a true).1.ino w.fs.xs with links:=0,parent:=0 }) (fun z hz=>(hb.pnode z hz).up) (show km (N+1) _ from (jG hb.node hi).up) x hx
      ·exact (hb.pnode x hx).up
     ·show (zR _ _).next<=_
      rw[u3];have:=hb.next;omega
     ·show (zR _ _).maxI<=_/\(zR _ _).maxB<=_/\_<=(zR _ _).maxI/\_<=(zR _ _).maxB
      rw[u4,u5];exact hb.room
end
section
open CA CB
open Go.RowKit
section
variable {G:zm}
theorem xq (f:FsV):Fun Tryz.prog G 229 [.agg (fsC f)] (.sc (.int .i64 (f.xs.length:Nat))) 0:=by
 refine Fun.of (fun _=>[]) Tryz.func229 rfl (zi rfl) (by kernel_rfl) ?_;dsimp only[Tryz.f229]
 push_cast -dsimp
 exact ⟨[],rfl,rfl,by push_cast -dsimp [zb,za,CLe,zd,show (zp f.xs).length=f.xs.length from List.length_map ..]⟩
theorem uJ (f:FsV) (hf:FsS f):Fun Tryz.prog G 230 [.agg (fsC f)] (.sc (.int .i64 (ja f.xs:Nat))) 0:=by
 have hll:(zp f.xs).length=f.xs.length:=List.length_map ..
 have hb:=hf.bytes
 have h4:=hf.len
 have hb0:ja []=0:=rfl
 have hmono:∀ i,ja (f.xs.take i)<=100000000:=fun i=>by
  have h1:=Uo (xs:=f.xs.take i) (n:=10000) fun x hx=>(hf.node x (List.mem_of_mem_take hx)).2.1
  have h2:(f.xs.take i).length<=10000:=by rw[List.length_take];have:=hf.len;omega
  have:(f.xs.take i).length*10000<=10000*10000:=Nat.mul_le_mul_right _ h2
  omega
 refine Fun.of (fun _=>[]) Tryz.func230 rfl (zi rfl) (by kernel_rfl) ?_;dsimp only[Tryz.f230]
 push_cast -dsimp
 refine loop (fun i:Nat=>⟨[(1,.ptr 0 0),(3,.sc (.int .i64 (ja (f.xs.take i):Nat))),(7,.sc (.int .i64 (f.xs.length:Nat))),(8,.sc (.int .i64 i))],[fsC f],0,0⟩) (fun i=>i<=f.xs.length) (fun i=>f.xs.length-i) 0 (Nat.zero_le _) ?_ ?_
 ·exact zH.mk [] rfl rfl (Nat.zero_le _) rfl (by push_cast -dsimp [zb,za,CLe,zd,hb0,hll,List.take_zero]) (by push_cast -dsimp [zb,za,CLe,zd])
 ·intro i h1
  by_cases h:i<f.xs.length
  ·have g1:=qS f.xs i h
   have ht:=kZ h
   have hm:=hmono (i+1)
   have hm0:=hmono i
   rw[ht]at hm
   by_cases hk:f.xs[i].kind=1
   ·rw[if_pos hk]at ht hm
    push_cast -dsimp [hll,h,g1,hk]
    (try simp only[lS]);repeat refine And.intro (by omega) ?_
    exact ⟨i+1,h,by omega,zH.mk [] rfl rfl (Nat.zero_le _) rfl (by push_cast -dsimp [zb,za,CLe,zd,ht]) (by push_cast -dsimp [zb,za,CLe,zd])⟩
   ·rw[if_neg hk]at ht hm
    push_cast -dsimp [hll,h,g1,hk]
    (try simp only[lS]);repeat refine And.intro (by omega) ?_
    exact ⟨i+1,h,by omega,zH.mk [] rfl rfl (Nat.zero_le _) rfl (by push_cast -dsimp [zb,za,CLe,zd,ht,Nat.add_zero]) (by push_cast -dsimp [zb,za,CLe,zd])⟩
  ·rw[List.take_of_length_le (by omega)]
   push_cast -dsimp [hll,h]
   exact ⟨[],rfl,rfl,by push_cast -dsimp [zb,za,CLe,zd]⟩
theorem UJ (f:FsV) (hf:FsS f) (n b:Int) (hn:-1000000000<=n/\n<=1000000000) (hb:-1000000000<=b/\b<=1000000000):Fun Tryz.prog G 200 [.agg (fsC f),.sc (.int .i64 n),.sc (.int .i64 b)] (.sc (.bool (Jl f n b))) 0:=by
 have h1:=xq (G:=G) f
 have h2:=uJ (G:=G) f hf
 have h3:=hf.bytes
 have h4:=hf.len
 by_cases c1:(f.xs.length:Int)+n<=f.maxI
 ·have e:Jl f n b=decide ((ja f.xs:Int)+b<=f.maxB):=by unfold Jl;rw[decide_eq_true c1,Bool.true_and]
  refine Fun.of (fun _=>[]) Tryz.func200 rfl (zi rfl) (by kernel_rfl) ?_;dsimp only[Tryz.f200]
  push_cast -dsimp
  refine cl (h1) ?_;push_cast -dsimp [c1]
  (try simp only[lS]);repeat refine And.intro (by omega) ?_
  refine cl (h2) ?_;push_cast -dsimp
  (try simp only[lS]);repeat refine And.intro (by omega) ?_
  exact ⟨[],rfl,rfl,by push_cast -dsimp [zb,za,CLe,zd,e]⟩
 ·have e:Jl f n b=false:=by unfold Jl;rw[decide_eq_false c1,Bool.false_and]
  refine Fun.of (fun _=>[]) Tryz.func200 rfl (zi rfl) (by kernel_rfl) ?_;dsimp only[Tryz.f200]
  push_cast -dsimp
  refine cl (h1) ?_;push_cast -dsimp [c1]
  (try simp only[lS]);repeat refine And.intro (by omega) ?_
  exact ⟨[],rfl,rfl,by push_cast -dsimp [zb,za,CLe,zd,e]⟩
end
end
section
open CA CB
open Go.RowKit
abbrev YB (s:qM):List C:=[.sc (.int .i64 s.dir),.str s.name,.sc (.int .i64 s.ino)]
theorem FsS.es {f:FsV} (h:FsS f) {n:Int} (hh:zF n f.xs=true):(zg n f.xs).es.length<=10000:=(h.node _ (zk hh).2.1).1
theorem Md {xs:List (List UInt8)} {k:Nat} (h:k<xs.length):(qZ xs)[k]?=some [.str xs[k]]:=by simp[List.getElem?_map,List.getElem?_eq_getElem h]
theorem y9 (f:FsV) (hf:FsI f) (hs:FsS f) (p:List UInt8) (hp:p.length<=100000):Fun Tryz.prog G0 199 [.agg (fsC f),.str p] (.tup [.agg (YB (atV f p).1),.sc (.int .i64 (atV f p).2)]) 0:=by
 have hpl:=G5 p (by omega)
 have hlen:=hs.len
 have hnl:(zJ p).length<=100000:=by have:=j6 p;omega
 cases hpp:Yk p with
 | false =>
  have e:atV f p=(Qr,9):=by unfold atV;rw[hpp];rfl
  unfold Yl at hpl
  rw[hpp]at hpl
  refine Fun.of (fun _=>[]) Tryz.func199 rfl (zi rfl) (by kernel_rfl) ?_;dsimp only[Tryz.f199]
  push_cast -dsimp
  refine cl (hpl) ?_;push_cast -dsimp
  exact ⟨[],rfl,rfl,by push_cast -dsimp [zb,za,CLe,zd,e,Qr]⟩
 | true =>
  have e:atV f p=atW f.xs (zJ p) ⟨0,[],1⟩:=by unfold atV;rw[hpp];rfl
  unfold Yl at hpl
  rw[hpp,if_pos rfl]at hpl
  generalize zJ p=ns at hpl hnl e
  have hsl:(qZ ns).length=ns.length:=List.length_map ..
  refine Fun.of (fun _=>[]) Tryz.func199 rfl (zi rfl) (by kernel_rfl) ?_;dsimp only[Tryz.f199]
  push_cast -dsimp
  refine cl (hpl) ?_;push_cast -dsimp
  refine loop (fun x:Nat×qM=>⟨[(1,.str p),(2,.ptr 0 0),(4,.ptr 1 0),(8,.ptr 2 0),(24,.own 0 9 1 (qZ ns)),(25,.sc (.int .i64 (ns.length:Nat))),(26,.sc (.int .i64 x.1))],[fsC f,[.sc (.int .i64 0),.str [],.sc (.int .i64 0)],YB x.2],1,0⟩)
   (fun x=>x.1<=ns.length/\atW f.xs ns ⟨0,[],1⟩=atW f.xs (ns.drop x.1) x.2/\(x.2.ino≠0->zF x.2.ino f.xs=true)) (fun x=>ns.length-x.1) (0,⟨0,[],1⟩) ⟨Nat.zero_le _,rfl,fun _=>hf.root⟩ ?_ ?_
  ·exact zH.mk [.inl 0] rfl rfl (Nat.zero_le _) rfl (by push_cast -dsimp [zb,za,CLe,zd,hsl]) (by push_cast -dsimp [zb,za,CLe,zd])
  rintro ⟨k,s⟩ ⟨hk,hat,hin⟩
  simp only at hk hat hin ⊢
  by_cases hlt:k<ns.length
  ·have gs:=Md hlt
   have hdr:ns.drop k=ns[k] :: ns.drop (k+1):=List.drop_eq_getElem_cons hlt
   obtain ⟨nm,hnm⟩:∃ nm,ns[k]=nm:=⟨_,rfl⟩
   rw[hnm]at gs hdr
   have hg:=jP (G:=G0) f s.ino (by omega) hf.rises
   cases hh:zF s.ino f.xs with
   | false =>
    have h0:s.ino=0:=Classical.byContradiction fun hne=>by rw[hin hne]at hh;cases hh
    have hr:atV f p=(Qr,1):=by rw[e,hat,hdr];unfold atW;rw[if_pos h0]
    rw[hh]at hg
    push_cast -dsimp [hlt,gs]
    (try simp only[lS]);repeat refine And.intro (by omega) ?_
    refine cl (hg) ?_;push_cast -dsimp
    exact ⟨[],rfl,rfl,by push_cast -dsimp [zb,za,CLe,zd,hr,Qr]⟩
   | true =>
    have hn0:s.ino≠0:=zb1 hf hh
    have hgg:=zk hh
    rw[hh]at hg
    by_cases hk2:(zg s.ino f.xs).kind=2
    ·have hfd:=zfA (G:=G0) (zg s.ino f.xs).es nm (by have:=hs.es hh;omega) (hf.es _ hgg.2.1)
     have hnx:atW f.xs ns ⟨0,[],1⟩=atW f.xs (ns.drop (k+1)) ⟨(zg s.ino f.xs).ino,nm,jN nm (zg s.ino f.xs).es⟩:=by
      rw[hat,hdr]
      conv=>lhs;unfold atW
      rw[if_neg hn0,if_neg (by simp[hk2])]
     have hin2:jN nm (zg s.ino f.xs).es≠0->zF (jN nm (zg s.ino f.xs).es) f.xs=true:=fun hne=>by
      refine ym hf hh ?_
      unfold VG
      rw[jB]
      cases hq:Ji zZ.name nm (zg s.ino f.xs).es with
      | some e=>rfl
      | none=>unfold jN at hne;rw[hq]at hne;exact absurd rfl hne
     push_cast -dsimp [hlt,gs]
     (try simp only[lS]);repeat refine And.intro (by omega) ?_
     refine cl (hg) ?_;push_cast -dsimp [hk2]
     refine cl (hfd) ?_;push_cast -dsimp
     (try simp only[lS]);repeat refine And.intro (by omega) ?_
     exact ⟨(k+1,⟨(zg s.ino f.xs).ino,nm,jN nm (zg s.ino f.xs).es⟩),⟨hlt,hnx,hin2⟩,by simp only;omega,zH.mk [.inl 0] rfl rfl (Nat.zero_le _) rfl (by push_cast -dsimp [zb,za,CLe,zd]) (by push_cast -dsimp [zb,za,CLe,zd])⟩
    ·have hr:atV f p=(Qr,3):=by rw[e,hat,hdr];unfold atW;rw[if_neg hn0,if_pos hk2]
     push_cast -dsimp [hlt,gs]
     (try simp only[lS]);repeat refine And.intro (by omega) ?_
     refine cl (hg) ?_;push_cast -dsimp [hk2]
     exact ⟨[],rfl,rfl,by push_cast -dsimp [zb,za,CLe,zd,hr,Qr]⟩
  ·have hr:atV f p=(s,0):=by rw[e,hat,List.drop_of_length_le (by omega)];unfold atW;rfl
   push_cast -dsimp [hlt]
   exact ⟨[],rfl,rfl,by push_cast -dsimp [zb,za,CLe,zd,hr]⟩
end
section
open CA CB
open Go.RowKit
abbrev zju (f:FsV):Prop:=0<=f.next/\f.next<=4000000000000000000
theorem US {f:FsV} (hf:FsI f):f.xs≠[]:=fun h=>by have:=hf.root;rw[h]at this;cases this
theorem YT {f:FsV} (hf:FsI f) {n:Int} (hh:zF n f.xs=true):JA (zg n f.xs).es:=hf.es _ (zk hh).2.1
theorem Fun.argsLe {P:Program} {G:zm} {f:FuncId} {args args':List C} {r:C} {n:Nat} (h:Fun P G f args r n) (ha:∀ R vs,zu R zI args' vs->zu R zI args vs):Fun P G f args' r n:=
 ⟨h.1,fun R vs hg hv=>h.2 R vs hg (ha R vs hv)⟩
theorem vL {R:Env} {L:Loc} {k:Nat} {v:Value} (h:Rep R L (.sc (.slice none 0 0)) v):Rep R L (.sl k []) v:=by
 rw[zo]at h
 subst h
 unfold Rep
 exact ⟨none,0,rfl,Nat.le_refl _,Nat.zero_le _,.inl rfl⟩
theorem zlS {G:zm} (f:FsV) (x:zy) (hx:x.es = []) (hl:f.xs.length<=90000) (hR:qc f.xs) :
  Fun Tryz.prog G 203 [.agg (fsC f),.agg [.sc (.int .i64 x.ino),.sc (.int .i64 x.kind),.sc (.int .i64 x.links),.str x.data,.sc (.int .i64 x.parent),.sc (.slice none 0 0)]] (.agg [.sc (.int .i64 f.maxI),.sc (.int .i64 f.maxB),.sc (.int .i64 f.next),.own 0 75 6 (zp (qH x f.xs))]) 1:=by
 refine (YC f x hl hR).argsLe fun R vs h=>?_
 obtain ⟨v1,us1,rfl,h1,h⟩:=ze.1 h
 obtain ⟨v2,us2,rfl,h2,h⟩:=ze.1 h
 refine ze.2 ⟨_,_,rfl,h1,ze.2 ⟨_,_,rfl,?_,h⟩⟩
 obtain ⟨ws,rfl,hw⟩:=jL.1 h2
 obtain ⟨w1,t1,e1,g1,hw⟩:=ze.1 hw
 obtain ⟨w2,t2,e2,g2,hw⟩:=ze.1 hw
 obtain ⟨w3,t3,e3,g3,hw⟩:=ze.1 hw
 obtain ⟨w4,t4,e4,g4,hw⟩:=ze.1 hw
 obtain ⟨w5,t5,e5,g5,hw⟩:=ze.1 hw
 obtain ⟨w6,t6,e6,g6,hw⟩:=ze.1 hw
 refine jL.2 ⟨ws,rfl,?_⟩
 have g6':Rep R zI (.sl 2 (zG x.es)) w6:=by rw[hx];exact vL g6
 rw[e1,e2,e3,e4,e5,e6]
 exact ze.2 ⟨_,_,rfl,g1,ze.2 ⟨_,_,rfl,g2,ze.2 ⟨_,_,rfl,g3,ze.2 ⟨_,_,rfl,g4,ze.2 ⟨_,_,rfl,g5,ze.2 ⟨_,_,rfl,g6',hw⟩⟩⟩⟩⟩⟩
theorem zaR (f:FsV) (hf:FsI f) (hs:FsS f) (hn:zju f) (s:qM) (hsp:XG f s) (hnl:s.name.length<=100000) (k:Int) (t:List UInt8) (ht:t.length<=100000) :
  Fun Tryz.prog G0 166 [.agg (fsC f),.agg (YB s),.sc (.int .i64 k),.str t] (.tup [.agg (fsC (Zj f s k t).1),.sc (.int .i64 (Zj f s k t).2)]) 0:=by
 have hm:=zfG s.name (by omega)
 have hlen:=hs.len
 cases hmay:may s.name with
 | false =>
  have e:Zj f s k t=(f,9):=by unfold Zj;rw[hmay];rfl
  rw[hmay]at hm
  by_cases hk:k=1
  ·have hk':=eq_true hk
   refine Fun.of (fun j=>if j=14 then [false,false,false,false,false,true] else []) Tryz.func166 rfl (zi rfl) (by kernel_rfl) ?_;dsimp only[Tryz.f166]
   push_cast -dsimp [hk']
   refine cl (hm) ?_;push_cast -dsimp
   exact ⟨[],rfl,rfl,by push_cast -dsimp [zb,za,CLe,zd,e]⟩
  ·have hk':=eq_false hk
   refine Fun.of (fun j=>if j=14 then [false,false,false,false,false,true] else []) Tryz.func166 rfl (zi rfl) (by kernel_rfl) ?_;dsimp only[Tryz.f166]
   push_cast -dsimp [hk']
   refine cl (hm) ?_;push_cast -dsimp
   exact ⟨[],rfl,rfl,by push_cast -dsimp [zb,za,CLe,zd,e]⟩
 | true =>
  rw[hmay]at hm
  have key:∀ b:Int,(if k=1 then (t.length:Int) else 0)=b->Jl f 1 b=false->Zj f s k t=(f,8):=fun b hb hr=>by unfold Zj;rw[hmay,if_pos rfl,hb,hr];rfl
  have key2:∀ b:Int,(if k=1 then (t.length:Int) else 0)=b->Jl f 1 b=true->Zj f s k t=(zab f s k t,0):=fun b hb hr=>by unfold Zj;rw[hmay,if_pos rfl,hb,hr];rfl
  have hg:=jP (G:=G0) f s.dir (by omega) hf.rises
  rw[hsp.has]at hg
  have htk:=zgu (G:=G0) f (by omega) (US hf) (by have:=hn.1;omega) (by have:=hn.2;omega)
  have hes:=hs.es hsp.has
  have hw:=Ud (G:=G0) (zg s.dir f.xs).es s.name f.next (by omega) (YT hf hsp.has)
  have hd1:=YC (G:=G0) ⟨f.maxI,f.maxB,f.next+1,f.xs⟩ (qr (zg s.dir f.xs) (zY s.name f.next (zg s.dir f.xs).es)) (by simp only;omega) hf.rises
  have hdl:(qK s.dir (zY s.name f.next) f.xs).length=f.xs.length:=jM hf.rises hsp.has
  have hd2:=fun pr:Int=>zlS (G:=G0) ⟨f.maxI,f.maxB,f.next+1,qK s.dir (zY s.name f.next) f.xs⟩ ⟨f.next,k,1,t,pr,[]⟩ rfl (by simp only;omega) (qd hf.rises)
  have hx0:k=2->zab f s k t=⟨f.maxI,f.maxB,f.next+1,qH ⟨f.next,k,1,t,s.dir,[]⟩ (qK s.dir (zY s.name f.next) f.xs)⟩:=fun h=>by unfold zab;rw[if_pos h]
  have hx1:k≠2->zab f s k t=⟨f.maxI,f.maxB,f.next+1,qH ⟨f.next,k,1,t,0,[]⟩ (qK s.dir (zY s.name f.next) f.xs)⟩:=fun h=>by unfold zab;rw[if_neg h]
  unfold qK at hd2 hx0 hx1
  by_cases hk:k=1
  ·have hk':=eq_true hk
   have hk2:(k=2)=False:=eq_false (by omega)
   have hr:=UJ (G:=G0) f hs 1 t.length (by omega) (by omega)
   cases hrm:Jl f 1 t.length with
   | false =>
    have e:=key _ (if_pos hk) hrm
    rw[hrm]at hr
    refine Fun.of (fun j=>if j=14 then [false,false,false,false,false,true] else []) Tryz.func166 rfl (zi rfl) (by kernel_rfl) ?_;dsimp only[Tryz.f166]
    push_cast -dsimp [hk']
    refine cl (hm) ?_;push_cast -dsimp
    refine cl (hr) ?_;push_cast -dsimp
    exact ⟨[],rfl,rfl,by push_cast -dsimp [zb,za,CLe,zd,e]⟩
   | true =>
    have e:=key2 _ (if_pos hk) hrm
    have ex:=hx1 (by omega)
    rw[hrm]at hr
    refine Fun.of (fun j=>if j=14 then [false,false,false,false,false,true] else []) Tryz.func166 rfl (zi rfl) (by kernel_rfl) ?_;dsimp only[Tryz.f166]
    push_cast -dsimp [hk']
    refine cl (hm) ?_;push_cast -dsimp
    refine cl (hr) ?_;push_cast -dsimp
    refine cl (hg) ?_;push_cast -dsimp
    refine cl (htk) ?_;push_cast -dsimp [hk2]
    refine cl (hw) ?_;push_cast -dsimp
    refine cl (hd1) ?_;push_cast -dsimp
    refine cl (hd2 0) ?_;push_cast -dsimp
    exact ⟨[],rfl,rfl,by push_cast -dsimp [zb,za,CLe,zd,e,ex]⟩
  ·have hk':=eq_false hk
   have hr:=UJ (G:=G0) f hs 1 0 (by omega) (by omega)
   cases hrm:Jl f 1 0 with
   | false =>
    have e:=key _ (if_neg hk) hrm
    rw[hrm]at hr
    refine Fun.of (fun j=>if j=14 then [false,false,false,false,false,true] else []) Tryz.func166 rfl (zi rfl) (by kernel_rfl) ?_;dsimp only[Tryz.f166]
    push_cast -dsimp [hk']
    refine cl (hm) ?_;push_cast -dsimp
    refine cl (hr) ?_;push_cast -dsimp
    exact ⟨[],rfl,rfl,by push_cast -dsimp [zb,za,CLe,zd,e]⟩
   | true =>
    have e:=key2 _ (if_neg hk) hrm
    rw[hrm]at hr
    by_cases hk2:k=2
    ·have ex:=hx0 hk2
     have hk2':=eq_true hk2
     refine Fun.of (fun j=>if j=14 then [false,false,false,false,false,true] else []) Tryz.func166 rfl (zi rfl) (by kernel_rfl) ?_;dsimp only[Tryz.f166]
     push_cast -dsimp [hk']
     refine cl (hm) ?_;push_cast -dsimp
     refine cl (hr) ?_;push_cast -dsimp
     refine cl (hg) ?_;push_cast -dsimp
     refine cl (htk) ?_;push_cast -dsimp [hk2']
     refine cl (hw) ?_;push_cast -dsimp
     refine cl (hd1) ?_;push_cast -dsimp
     refine cl (hd2 s.dir) ?_;push_cast -dsimp
     exact ⟨[],rfl,rfl,by push_cast -dsimp [zb,za,CLe,zd,e,ex]⟩
    ·have ex:=hx1 hk2
     have hk2':=eq_false hk2
     refine Fun.of (fun j=>if j=14 then [false,false,false,false,false,true] else []) Tryz.func166 rfl (zi rfl) (by kernel_rfl) ?_;dsimp only[Tryz.f166]
     push_cast -dsimp [hk']
     refine cl (hm) ?_;push_cast -dsimp
     refine cl (hr) ?_;push_cast -dsimp
     refine cl (hg) ?_;push_cast -dsimp
     refine cl (htk) ?_;push_cast -dsimp [hk2']
     refine cl (hw) ?_;push_cast -dsimp
     refine cl (hd1) ?_;push_cast -dsimp
     refine cl (hd2 0) ?_;push_cast -dsimp
     exact ⟨[],rfl,rfl,by push_cast -dsimp [zb,za,CLe,zd,e,ex]⟩
end
section
open CA CB
open Go.RowKit
theorem zeo {g:zy->Nat} {n:Nat}:∀ {xs:List zy},(∀ x∈xs,g x<=n)->MN g xs<=xs.length*n
 | [],_=>by simp[MN]
 | x :: r,h=>by
  have ih:=zeo (g:=g) (n:=n) (xs:=r) fun y hy=>h y (List.mem_cons_of_mem _ hy)
  have hx:=h x List.mem_cons_self
  unfold MN at ih ⊢
  simp only[List.map_cons,List.sum_cons,List.length_cons]
  rw[Nat.succ_mul];omega
theorem Vy {f:FsV} (hf:FsI f) (hs:FsS f) {n:Int} (hh:zF n f.xs=true):0<=(zg n f.xs).links/\(zg n f.xs).links<=100000000:=by
 have h1:=hf.links _ (zk hh).2.1
 have h2:=zeo (g:=JT (zg n f.xs).ino) (n:=10000) (xs:=f.xs) fun x hx=>Nat.le_trans (List.length_filter_le _ _) (hs.node x hx).1
 have h3:=hs.len
 have h4:f.xs.length*10000<=10000*10000:=Nat.mul_le_mul_right _ h3
 unfold JJ at h1
 omega
theorem zic (f:FsV) (hf:FsI f) (hs:FsS f) (s:qM) (hsp:XG f s) (i:Int) (hi:zF i f.xs=true) (hne:s.dir≠i):Fun Tryz.prog G0 171 [.agg (fsC f),.agg (YB s),.sc (.int .i64 i)] (.agg (fsC (Uw f s i))) 0:=by
 have hlen:=hs.len
 have hg:=jP (G:=G0) f s.dir (by omega) hf.rises
 rw[hsp.has]at hg
 have hes:=hs.es hsp.has
 have hw:=Ud (G:=G0) (zg s.dir f.xs).es s.name i (by omega) (YT hf hsp.has)
 have hd1:=YC (G:=G0) f (qr (zg s.dir f.xs) (zY s.name i (zg s.dir f.xs).es)) (by omega) hf.rises
 have hdl:(qK s.dir (zY s.name i) f.xs).length=f.xs.length:=jM hf.rises hsp.has
 have hR1:qc (qK s.dir (zY s.name i) f.xs):=qd hf.rises
 have hg2:=jP (G:=G0) ⟨f.maxI,f.maxB,f.next,qK s.dir (zY s.name i) f.xs⟩ i (by simp only;omega) hR1
 simp only at hg2
 rw[qh hsp.has,hi,JY hsp.has,if_neg hne]at hg2
 have hl:=Vy hf hs hi
 have hd2:=YC (G:=G0) ⟨f.maxI,f.maxB,f.next,qK s.dir (zY s.name i) f.xs⟩ { zg i f.xs with links:=(zg i f.xs).links+1 } (by simp only;omega) hR1
 have e:Uw f s i=⟨f.maxI,f.maxB,f.next,qH { zg i f.xs with links:=(zg i f.xs).links+1 } (qK s.dir (zY s.name i) f.xs)⟩:=rfl
 unfold qK at hg2 hd2 e
 refine Fun.of (fun _=>[]) Tryz.func171 rfl (zi rfl) (by kernel_rfl) ?_;dsimp only[Tryz.f171]
 push_cast -dsimp
 refine cl (hg) ?_;push_cast -dsimp
 refine cl (hw) ?_;push_cast -dsimp
 refine cl (hd1) ?_;push_cast -dsimp
 refine cl (hg2) ?_;push_cast -dsimp
 (try simp only[lS]);repeat refine And.intro (by omega) ?_
 refine cl (hd2) ?_;push_cast -dsimp
 exact ⟨[],rfl,rfl,by push_cast -dsimp [zb,za,CLe,zd,e]⟩
theorem uG (f:FsV) (hf:FsI f) (hs:FsS f) (s:qM) (hsp:qg f s) (hne:s.dir≠s.ino):Fun Tryz.prog G0 174 [.agg (fsC f),.agg (YB s)] (.agg (fsC (zR f s))) 0:=by
 have hi:=qg.ino hf hsp
 have hlen:=hs.len
 have hg:=jP (G:=G0) f s.dir (by omega) hf.rises
 rw[hsp.has]at hg
 have hes:=hs.es hsp.has
 have hhe:JO zZ.name s.name (zg s.dir f.xs).es=true:=by rw[jB,hsp.there];rfl
 have hw:=Vh (G:=G0) (zg s.dir f.xs).es s.name (by omega) (YT hf hsp.has) hhe
 have hd1:=YC (G:=G0) f (qr (zg s.dir f.xs) (zh s.name (zg s.dir f.xs).es)) (by omega) hf.rises
 have hdl:(qK s.dir (zh s.name) f.xs).length=f.xs.length:=jM hf.rises hsp.has
 have hR1:qc (qK s.dir (zh s.name) f.xs):=qd hf.rises
 have hg2:=jP (G:=G0) ⟨f.maxI,f.maxB,f.next,qK s.dir (zh s.name) f.xs⟩ s.ino (by simp only;omega) hR1
 simp only at hg2
 rw[qh hsp.has,hi,JY hsp.has,if_neg hne]at hg2
 have hl:=Vy hf hs hi
 have hxi:=(zk hi).2.2
 have hd2:=YC (G:=G0) ⟨f.maxI,f.maxB,f.next,qK s.dir (zh s.name) f.xs⟩ { zg s.ino f.xs with links:=(zg s.ino f.xs).links-1 } (by simp only;omega) hR1
 have hd3:=zgd (G:=G0) ⟨f.maxI,f.maxB,f.next,qK s.dir (zh s.name) f.xs⟩ s.ino (by simp only;omega) hR1 (by intro h;have h0:f.xs = []:=List.length_eq_zero_iff.1 (by rw[←hdl];exact congrArg List.length h);exact US hf h0)
 have e0:zR f s=if (zg s.ino f.xs).links-1=0 then ⟨f.maxI,f.maxB,f.next,qk s.ino (qK s.dir (zh s.name) f.xs)⟩ else ⟨f.maxI,f.maxB,f.next,qH { zg s.ino f.xs with links:=(zg s.ino f.xs).links-1 } (qK s.dir (zh s.name) f.xs)⟩:=rfl
 unfold qK at hg2 hd2 hd3 e0
 by_cases hz:(zg s.ino f.xs).links-1=0
 ·rw[if_pos hz]at e0
  have hz':=eq_true hz
  rw[←hxi]at hd3
  refine Fun.of (fun _=>[]) Tryz.func174 rfl (zi rfl) (by kernel_rfl) ?_;dsimp only[Tryz.f174]
  push_cast -dsimp
  refine cl (hg) ?_;push_cast -dsimp
  refine cl (hw) ?_;push_cast -dsimp
  refine cl (hd1) ?_;push_cast -dsimp
  refine cl (hg2) ?_;push_cast -dsimp [hz']
  (try simp only[lS]);repeat refine And.intro (by omega) ?_
  refine cl (hd3) ?_;push_cast -dsimp
  exact ⟨[],rfl,rfl,by push_cast -dsimp [zb,za,CLe,zd,e0,hxi]⟩
 ·rw[if_neg hz]at e0
  have hz':=eq_false hz
  refine Fun.of (fun _=>[]) Tryz.func174 rfl (zi rfl) (by kernel_rfl) ?_;dsimp only[Tryz.f174]
  push_cast -dsimp
  refine cl (hg) ?_;push_cast -dsimp
  refine cl (hw) ?_;push_cast -dsimp
  refine cl (hd1) ?_;push_cast -dsimp
  refine cl (hg2) ?_;push_cast -dsimp [hz']
  (try simp only[lS]);repeat refine And.intro (by omega) ?_
  refine cl (hd2) ?_;push_cast -dsimp
  exact ⟨[],rfl,rfl,by push_cast -dsimp [zb,za,CLe,zd,e0]⟩
theorem yL (f:FsV) (hf:FsI f) (hs:FsS f) (i:Int) (hi:zF i f.xs=true) (t:List UInt8) (ht:t.length<=10000):Fun Tryz.prog G0 169 [.agg (fsC f),.sc (.int .i64 i),.str t] (.tup [.agg (fsC (Ye f i t).1),.sc (.int .i64 (Ye f i t).2)]) 0:=by
 have hlen:=hs.len
 have hg:=jP (G:=G0) f i (by omega) hf.rises
 rw[hi]at hg
 have hdat:=(hs.node _ (zk hi).2.1).2.1
 have hr:=UJ (G:=G0) f hs 0 ((t.length:Int)-((zg i f.xs).data.length:Int)) (by omega) (by omega)
 have hd:=YC (G:=G0) f { zg i f.xs with data:=t } (by omega) hf.rises
 cases hrm:Jl f 0 ((t.length:Int)-((zg i f.xs).data.length:Int)) with
 | false =>
  have e:Ye f i t=(f,8):=by unfold Ye;rw[hrm];rfl
  rw[hrm]at hr
  refine Fun.of (fun _=>[]) Tryz.func169 rfl (zi rfl) (by kernel_rfl) ?_;dsimp only[Tryz.f169]
  push_cast -dsimp
  refine cl (hg) ?_;push_cast -dsimp
  (try simp only[lS]);repeat refine And.intro (by omega) ?_
  refine cl (hr) ?_;push_cast -dsimp
  exact ⟨[],rfl,rfl,by push_cast -dsimp [zb,za,CLe,zd,e]⟩
 | true =>
  have e:Ye f i t=(⟨f.maxI,f.maxB,f.next,qH { zg i f.xs with data:=t } f.xs⟩,0):=by unfold Ye;rw[hrm];rfl
  rw[hrm]at hr
  refine Fun.of (fun _=>[]) Tryz.func169 rfl (zi rfl) (by kernel_rfl) ?_;dsimp only[Tryz.f169]
  push_cast -dsimp
  refine cl (hg) ?_;push_cast -dsimp
  (try simp only[lS]);repeat refine And.intro (by omega) ?_
  refine cl (hr) ?_;push_cast -dsimp
  refine cl (hd) ?_;push_cast -dsimp
  exact ⟨[],rfl,rfl,by push_cast -dsimp [zb,za,CLe,zd,e]⟩
end
section
open CA CB
open Go.RowKit
theorem zgz (f:FsV) (hf:FsI f) (hs:FsS f) (a b:qM) (ha:qg f a) (hb:XG f b) (hb0:b.ino=0):Fun Tryz.prog G0 172 [.agg (fsC f),.agg (YB a),.agg (YB b)] (.agg (fsC (QD f a b))) 0:=by
 have hai:=qg.ino hf ha
 have hlen:=hs.len
 have hhe:JO zZ.name a.name (zg a.dir f.xs).es=true:=by rw[jB,ha.there];rfl
 have hga:=jP (G:=G0) f a.dir (by omega) hf.rises
 rw[ha.has]at hga
 have hwa:=Vh (G:=G0) (zg a.dir f.xs).es a.name (by have:=hs.es ha.has;omega) (YT hf ha.has) hhe
 have hda:=YC (G:=G0) f (qr (zg a.dir f.xs) (zh a.name (zg a.dir f.xs).es)) (by omega) hf.rises
 obtain ⟨g1,hg1⟩:∃ g1,qK a.dir (zh a.name) f.xs=g1:=⟨_,rfl⟩
 obtain ⟨g2,hg2⟩:∃ g2,qK b.dir (zY b.name a.ino) g1=g2:=⟨_,rfl⟩
 have hR1:qc g1:=by rw[←hg1];exact qd hf.rises
 have hR2:qc g2:=by rw[←hg2];exact qd hR1
 have hl1:g1.length=f.xs.length:=by rw[←hg1];exact jM hf.rises ha.has
 have hb1:zF b.dir g1=true:=by rw[←hg1,qh ha.has];exact hb.has
 have hl2:g2.length=f.xs.length:=by rw[←hg2,jM hR1 hb1,hl1]
 have hi2:zF a.ino g2=true:=by rw[←hg2,qh hb1,←hg1,qh ha.has];exact hai
 have hgb:=jP (G:=G0) ⟨f.maxI,f.maxB,f.next,g1⟩ b.dir (by simp only;omega) hR1
 simp only at hgb
 rw[hb1]at hgb
 have hres:JA (zg b.dir g1).es/\(zg b.dir g1).es.length<=10000:=by
  rw[←hg1,JY ha.has]
  split
  ·refine ⟨JN (YT hf ha.has),?_⟩
   show (JE zZ.name _ _).length<=10000
   have:=YE (key:=zZ.name) a.name (zg a.dir f.xs).es
   have:=hs.es ha.has
   omega
  ·exact ⟨YT hf hb.has,hs.es hb.has⟩
 have hwb:=Ud (G:=G0) (zg b.dir g1).es b.name a.ino (by have:=hres.2;omega) hres.1
 have hdb:=YC (G:=G0) ⟨f.maxI,f.maxB,f.next,g1⟩ (qr (zg b.dir g1) (zY b.name a.ino (zg b.dir g1).es)) (by simp only;omega) hR1
 have hgx:=jP (G:=G0) ⟨f.maxI,f.maxB,f.next,g2⟩ a.ino (by simp only;omega) hR2
 simp only at hgx
 rw[hi2]at hgx
 have hxi:=(zk hi2).2.2
 have e0:QD f a b=if (zg a.ino g2).kind=2 then ⟨f.maxI,f.maxB,f.next,qH { zg a.ino g2 with parent:=b.dir } g2⟩ else ⟨f.maxI,f.maxB,f.next,g2⟩:=by unfold QD;rw[hg1,hg2]
 have hdx:=fun x:zy=>YC (G:=G0) ⟨f.maxI,f.maxB,f.next,g2⟩ x (by simp only;omega) hR2
 have hda':Fun Tryz.prog G0 203 [.agg (fsC f),.agg (JU (qr (zg a.dir f.xs) (zh a.name (zg a.dir f.xs).es)))] (.agg [.sc (.int .i64 f.maxI),.sc (.int .i64 f.maxB),.sc (.int .i64 f.next),.own 0 75 6 (zp g1)]) 1:=by rw[←hg1];exact hda
 have hdb':Fun Tryz.prog G0 203 [.agg (fsC ⟨f.maxI,f.maxB,f.next,g1⟩),.agg (JU (qr (zg b.dir g1) (zY b.name a.ino (zg b.dir g1).es)))] (.agg [.sc (.int .i64 f.maxI),.sc (.int .i64 f.maxB),.sc (.int .i64 f.next),.own 0 75 6 (zp g2)]) 1:=by rw[←hg2];exact hdb
 have hb0':=eq_true hb0
 by_cases hk:(zg a.ino g2).kind=2
 ·rw[if_pos hk]at e0
  have hk':=eq_true hk
  have hd:=hdx { zg a.ino g2 with parent:=b.dir }
  refine Fun.of (fun _=>[]) Tryz.func172 rfl (zi rfl) (by kernel_rfl) ?_;dsimp only[Tryz.f172]
  push_cast -dsimp [hb0']
  refine cl (hga) ?_;push_cast -dsimp
  refine cl (hwa) ?_;push_cast -dsimp
  refine cl (hda') ?_;push_cast -dsimp
  refine cl (hgb) ?_;push_cast -dsimp
  refine cl (hwb) ?_;push_cast -dsimp
  refine cl (hdb') ?_;push_cast -dsimp
  refine cl (hgx) ?_;push_cast -dsimp [hk']
  refine cl (hd) ?_;push_cast -dsimp
  exact ⟨[],rfl,rfl,by push_cast -dsimp [zb,za,CLe,zd,e0]⟩
 ·rw[if_neg hk]at e0
  have hk':=eq_false hk
  have hsm:qH (zg a.ino g2) g2=g2:=G9 hR2 (by rw[hxi];exact (zk hi2).1)
  have hd:=hdx (zg a.ino g2)
  rw[hsm]at hd
  refine Fun.of (fun _=>[]) Tryz.func172 rfl (zi rfl) (by kernel_rfl) ?_;dsimp only[Tryz.f172]
  push_cast -dsimp [hb0']
  refine cl (hga) ?_;push_cast -dsimp
  refine cl (hwa) ?_;push_cast -dsimp
  refine cl (hda') ?_;push_cast -dsimp
  refine cl (hgb) ?_;push_cast -dsimp
  refine cl (hwb) ?_;push_cast -dsimp
  refine cl (hdb') ?_;push_cast -dsimp
  refine cl (hgx) ?_;push_cast -dsimp [hk']
  refine cl (hd) ?_;push_cast -dsimp
  exact ⟨[],rfl,rfl,by push_cast -dsimp [zb,za,CLe,zd,e0]⟩
end
section
open Go.RowKit
section
variable {G:zm}
theorem Hc (rows:List (List C)) (hk:∀ r∈rows,r.length=4) (hs:jq rows) (hl:rows.length<=100000) :
  JI Tryz.prog G 214 [.sl 4 rows] [] 0 (zfx 4 rows):=by
 refine JI.bySlice (fun h=>?_) (fun h a cap hr=>?_)
 ·refine JI.of (fun i=>if i=1000000+25 then [true,true] else []) Tryz.func214 rfl (zi rfl) (by kernel_rfl) ?_;dsimp only[Tryz.f214]
  push_cast -dsimp
  refine ⟨h,Qy UK UM rfl rfl (by decide) rfl (qm hk) rfl (Nat.le_refl _) (Nat.le_refl _) (by omega) (by omega) (fun hc=>absurd hc ?_) (fun _ c hc hm=>?_)⟩
  ·have:=List.length_pos_iff.2 h;omega
  ·push_cast -dsimp
   rw[Nat.zero_add]at hc
   refine ⟨_,_,_,⟨⟨rfl,.inl ⟨h,c,hc,hm,rfl,rfl⟩⟩,Nat.zero_le _⟩,[],rfl,rfl,?_,by push_cast -dsimp [zb,za,CLe,zd]⟩
   push_cast -dsimp [zb,za,CLe,zd]
   exact zX (zC hs)
 ·cases a with
  | none =>
   refine JI.of (fun i=>if i=1000000+25 then [true,true] else []) Tryz.func214 rfl (zi rfl) (by kernel_rfl) ?_;dsimp only[Tryz.f214]
   push_cast -dsimp [hr,Option.isNone_none]
   exact ⟨_,_,_,⟨⟨rfl,.inr ⟨h,.inl ⟨rfl,rfl⟩⟩⟩,Nat.zero_le _⟩,[],rfl,rfl,by push_cast -dsimp [zb,za,CLe,zd],by push_cast -dsimp [zb,za,CLe,zd]⟩
  | some a =>
   refine JI.of (fun i=>if i=1000000+25 then [true,true] else []) Tryz.func214 rfl (zi rfl) (by kernel_rfl) ?_;dsimp only[Tryz.f214]
   push_cast -dsimp [hr,Option.isNone_some]
   have hx:C.xs? 4 [[]] (C.sc (.slice (some a) 0 cap))=some (0,[]):=by simp[C.xs?,hr]
   refine Qy UK UM hx rfl (by decide) rfl rfl rfl (Nat.le_refl _) (Nat.le_refl _) (by omega) (by omega) (fun _=>?_) (fun hc=>absurd hc (by omega))
   push_cast -dsimp
   exact ⟨_,_,_,⟨⟨rfl,.inr ⟨h,.inr ⟨rfl,rfl⟩⟩⟩,Nat.zero_le _⟩,[],rfl,rfl,by (push_cast -dsimp [zb,za,CLe,zd];simp[spl,zd]),by push_cast -dsimp [zb,za,CLe,zd]⟩
theorem VE (rows:List (List C)) (x:List C) (i c e:Nat) (hk:∀ r∈rows,r.length=4) (hx:x.length=4) (hs:jq rows) (hsx:(x.all C.stayB)=true) (hl:rows.length<=100000) (hi:i<=rows.length) (hc:rows.length<=c) (hcm:c<=9223372036854775807) :
  JI Tryz.prog G 213 [.bs 0 0 4 rows.length c,.sc (.int .i64 i),.own 0 e 4 [x]] [qo 4 rows c] 1 (zoF 4 (c*4) (rows.take i++x :: rows.drop i)):=by
 refine JI.of (fun j=>if j=1000000+25 then [true,true] else if j=11 then [false,false,false,false,false,false,false,false,true] else if j=15 then [false,false,false,false,false,false,false,false,true] else []) Tryz.func213 rfl (zi rfl) (by kernel_rfl) ?_;dsimp only[Tryz.f213]
 push_cast -dsimp
 have hlen:(rows.take i++x :: rows.drop i).length=rows.length+1:=by simp;omega
 have hki:∀ r∈rows.take i++x :: rows.drop i,r.length=4:=fun r hr=>by
  rcases List.mem_append.1 hr with hr | hr
  ·exact hk r (List.mem_of_mem_take hr)
  ·rcases List.mem_cons.1 hr with rfl | hr
   ·exact hx
   ·exact hk r (List.mem_of_mem_drop hr)
 have hsi:jq (rows.take i++x :: rows.drop i):=fun r hr=>by
  rcases List.mem_append.1 hr with hr | hr
  ·exact hs r (List.mem_of_mem_take hr)
  ·rcases List.mem_cons.1 hr with rfl | hr
   ·exact hsx
   ·exact hs r (List.mem_of_mem_drop hr)
 have hbl:=Jq hk hc
 have hfl:=qm hk
 have hxl:[x].flatten.length=1*4:=by simp[hx]
 have hpre:(qo 4 rows c).take rows.flatten.length=rows.flatten:=by unfold qo;rw[List.take_left]
 refine ⟨hc,⟨by omega,hi⟩,br (fun h=>?_) (fun h=>?_)⟩
 ·push_cast -dsimp
  refine Qy UK UM rfl rfl (by decide) rfl hxl rfl (by rw[hbl];omega) hc (by simp;omega) (by simp;omega) (fun h1=>?_) (fun h1 c' h2 h3=>?_)
  ·push_cast -dsimp
   have hi':i=rows.length:=of_decide_eq_true h
   refine ⟨_,_,_,⟨⟨rfl,c,by rw[hlen];exact h1,hcm,.inl ⟨rfl,rfl⟩⟩,Nat.le_refl _⟩,[],rfl,rfl,?_,by push_cast -dsimp [zb,za,CLe,zd,hlen]⟩
   push_cast -dsimp [zb,za,CLe,zd]
   have h6:rows.length*4+4<=c*4:=by have:rows.length+1<=c:=h1;omega
   refine Jp hki hsi (by rw[hlen];exact h1) (by rw[Qb (by rw[hbl,hx];exact h6),hbl]) ?_
   rw[hlen,hi',List.take_length,List.drop_length]
   unfold spl
   rw[←hfl,hpre,List.take_left' (by simp[hx,hfl];omega)]
   simp
  ·push_cast -dsimp
   have hi':i=rows.length:=of_decide_eq_true h
   have h2':rows.length+1<=c':=h2
   refine ⟨_,_,_,⟨⟨rfl,c',by rw[hlen];exact h2,h3,.inr ⟨rfl,rfl⟩⟩,Nat.le_of_ble_eq_true rfl⟩,[],rfl,rfl,?_,by push_cast -dsimp [zb,za,CLe,zd,hlen]⟩
   push_cast -dsimp [zb,za,CLe,zd]
   refine ⟨YV hbl,Jp hki hsi (by rw[hlen];exact h2) (by simp[hx,hbl];omega) ?_⟩
   rw[hlen,hi',List.take_length,List.drop_length,←hfl,hpre,List.take_left' (by simp[hx,hfl];omega)]
   simp
 ·have hne:i≠rows.length:=of_decide_eq_false h
  push_cast -dsimp
  refine ⟨⟨by omega,by omega⟩,br (fun h1=>?_) (fun h1=>?_)⟩
  ·have h1':(c:Int)<(rows.length:Int)+1:=of_decide_eq_true h1
   push_cast -dsimp
   (try simp only[lS]);repeat refine And.intro (by omega) ?_
   refine zjq UK zl4 UM rfl (by decide) rfl rfl (by rw[hbl];omega) (by omega) (by omega) (by omega) (by omega) (by omega) (fun c' B h2 h3 hBl hBt=>?_)
   have e1:((rows.length:Int)+1-(i:Int)).toNat=rows.length+1-i:=by omega
   rw[e1]at h2 ⊢
   have e2:i+(rows.length+1-i)=rows.length+1:=by omega
   rw[e2]at h2 ⊢
   push_cast -dsimp
   (try simp only[lS]);repeat refine And.intro (by omega) ?_
   refine Xg UK UM rfl rfl hxl (by rw[hBl];omega) (fun B1 hB1 hl1=>?_)
   rw[hBl]at hl1
   push_cast -dsimp
   (try simp only[lS]);repeat refine And.intro (by omega) ?_
   have hbp:=YY (c:=c) hk hi
   refine Xg UK UM (V2 rfl (by rw[hbl];omega)) rfl (by rw[hbp,List.length_drop,hfl];omega) (by rw[hl1];omega) (fun B2 hB2 hl2=>?_)
   rw[hl1]at hl2
   have hX:[x].flatten.take (min [x].length (rows.length+1-i)*4)=x:=by
    rw[List.length_singleton,Nat.min_eq_left (by omega),List.take_of_length_le (by omega)];simp
   rw[hX]at hB1
   rw[hbp,show min (rows.length-i) (rows.length-i)*4=(rows.length-i)*4 by omega,List.take_of_length_le (by rw[List.length_drop,hfl];omega),hB1]at hB2
   push_cast -dsimp
   refine ⟨_,_,_,⟨⟨rfl,c',by rw[hlen];exact h2,h3,.inr ⟨rfl,rfl⟩⟩,Nat.le_of_ble_eq_true rfl⟩,[],rfl,rfl,?_,by push_cast -dsimp [zb,za,CLe,zd,hlen]⟩
   push_cast -dsimp [zb,za,CLe,zd]
   refine ⟨YV hbl,Jp hki hsi (by rw[hlen];exact h2) hl2 ?_⟩
   rw[hlen,←XR hk,hB2]
   have hg:=Gr (cs:=B) (L:=rows.flatten) (X:=x) (p:=i*4) (q:=(i+1)*4) (by omega) (by omega) (by
    rw[hBt,List.drop_zero];unfold qo;rw[List.take_append_of_le_length (by omega)]) (by omega)
   rw[hfl,hx]at hg
   rw[←hg]
   congr 1;omega
  ·have h1':¬(c:Int)<(rows.length:Int)+1:=of_decide_eq_false h1
   push_cast -dsimp
   (try simp only[lS]);repeat refine And.intro (by omega) ?_
   refine zlA (ya (P:=Tryz.prog) (tR:=4) Tryz.func239 (by kernel_rfl) (by kernel_rfl) (by kernel_rfl) (by kernel_rfl) UK UM rfl (List.ne_nil_of_length_pos (by rw[hbl];omega)) (by simp) (by omega)) ?_
   push_cast -dsimp
   (try simp only[lS]);repeat refine And.intro (by omega) ?_
   have hbp:=YY (c:=c) hk hi
   refine Xg UK UM (V2 rfl (by rw[hbl];omega)) rfl (by simp[hbl];omega) (by rw[hbl];omega) (fun B1 hB1 hl1=>?_)
   rw[hbl]at hl1
   rw[List.take_take,Nat.min_eq_left (by omega),show min (rows.length+1-i) (rows.length-i)*4=(rows.length-i)*4 by omega,hbp]at hB1
   push_cast -dsimp
   (try simp only[lS]);repeat refine And.intro (by omega) ?_
   refine Xg UK UM rfl rfl hxl (by rw[hl1];omega) (fun B2 hB2 hl2=>?_)
   rw[hl1]at hl2
   have hX:[x].flatten.take (min [x].length (rows.length+1-i)*4)=x:=by
    rw[List.length_singleton,Nat.min_eq_left (by omega),List.take_of_length_le (by omega)];simp
   rw[hX,hB1]at hB2
   push_cast -dsimp
   have hcc:rows.length+1<=c:=by omega
   refine ⟨_,_,_,⟨⟨rfl,c,by rw[hlen];exact hcc,hcm,.inl ⟨rfl,rfl⟩⟩,Nat.le_of_ble_eq_true rfl⟩,[],rfl,rfl,?_,by push_cast -dsimp [zb,za,CLe,zd,hlen]⟩
   push_cast -dsimp [zb,za,CLe,zd]
   refine Jp hki hsi (by rw[hlen];exact hcc) hl2 ?_
   rw[hlen,←XR hk,hB2]
   have hg:=Us (cs:=qo 4 rows c) (L:=rows.flatten) (X:=x) (p:=i*4) (q:=(i+1)*4) (by omega) (by omega) hpre (by omega)
   rw[hfl,hx]at hg
   rw[←hg]
   congr 1;omega
theorem vx {e:Nat} (x:List C) (hx:x.length=4) (hsx:(x.all C.stayB)=true) :
  JI Tryz.prog G 213 [.sc (.slice none 0 0),.sc (.int .i64 0),.own 0 e 4 [x]] [] 1 (fun r bx' n=>n=0/\∃ c,1<=c/\c<=9223372036854775807/\r = .bs 0 0 4 1 c/\bx' = [qo 4 [x] c]):=by
 refine JI.of (fun j=>if j=1000000+25 then [true,true] else if j=11 then [false,false,false,false,false,false,false,false,true] else if j=15 then [false,false,false,false,false,false,false,false,true] else []) Tryz.func213 rfl (zi rfl) (by kernel_rfl) ?_;dsimp only[Tryz.f213]
 push_cast -dsimp
 refine Hq UK UM rfl rfl (by decide) rfl (by simp[hx]) (by simp) (by simp) (by simp) (fun c h1 h2=>?_)
 push_cast -dsimp
 refine ⟨_,_,_,⟨⟨rfl,c,h1,h2,rfl,rfl⟩,Nat.zero_le _⟩,[],rfl,rfl,?_,by push_cast -dsimp [zb,za,CLe,zd]⟩
 push_cast -dsimp [zb,za,CLe,zd]
 have:=zX (src:=[]) (n:=1) (zC (k:=4) (c:=c) (rows:=[x]) fun r hr=>by
  rw[List.mem_singleton.1 hr];exact hsx)
 unfold qo at this ⊢
 simpa using this
end
end
section
open CA CB
open Go.RowKit
abbrev jS (k:zN):List C:=[.sc (.int .i64 k.slot),.sc (.int .i64 k.ino),.sc (.bool k.content),.str k.data]
abbrev zE (ks:List zN):List (List C):=ks.map jS
theorem jj (ks:List zN) (i:Nat) (h:i<ks.length):(zE ks)[i]?=some (jS ks[i]):=by simp[List.getElem?_map,List.getElem?_eq_getElem h]
abbrev kg (w:qv):List C:=[.sc (.int .i64 w.fs.maxI),.sc (.int .i64 w.fs.maxB),.sc (.int .i64 w.fs.next),.sl 6 (zp w.fs.xs),.sl 4 (zE w.kept),.sl 6 (zp w.pool)]
abbrev jv (w:qv):C:=.agg (kg w)
theorem zdN (a b:Int):VH a b<0↔jD.lt a b=true:=by
 show VH a b<0↔decide (a<b)=true
 unfold VH
 rw[decide_eq_true_eq]
 split
 ·simp;assumption
 ·split<;>omega
theorem zec (a b:Int):VH a b=0↔a=b:=by
 unfold VH
 split
 ·constructor
  ·intro h;cases h
  ·intro h;omega
 ·split
  ·constructor
   ·intro h;cases h
   ·intro h;omega
  ·constructor
   ·intro _;omega
   ·intro _;rfl
section
variable {G:zm}
theorem zh3 (k:zN):Fun Tryz.prog G 206 [.agg (jS k)] (.sc (.int .i64 k.slot)) 0:=by
 refine Fun.of (fun _=>[]) Tryz.func206 rfl (zi rfl) (by kernel_rfl) ?_;dsimp only[Tryz.f206]
 push_cast -dsimp
 exact ⟨[],rfl,rfl,by push_cast -dsimp [zb,za,CLe,zd]⟩
theorem y8 (k:zN) (n:Int):Fun Tryz.prog G 235 [.agg (jS k),.sc (.int .i64 n),.row [.clo (.func 206) [] []]] (.sc (.int .i64 (VH k.slot n))) 0:=by
 refine Fun.of (fun _=>[]) Tryz.func235 rfl (zi rfl) (by kernel_rfl) ?_;dsimp only[Tryz.f235]
 push_cast -dsimp
 refine cl (zh3 k) ?_;push_cast -dsimp
 refine cl (xQ k.slot n) ?_;push_cast -dsimp
 exact ⟨[],rfl,rfl,by push_cast -dsimp [zb,za,CLe,zd]⟩
theorem NE (ks:List zN) (n:Int) (hl:ks.length<=100000) (hR:qF jD zN.slot ks) :
  Fun Tryz.prog G 234 [.sl 4 (zE ks),.sc (.int .i64 n),.clo (.func 235) [] [.row [.clo (.func 206) [] []]]] (.tup [.sc (.int .i64 (ql jD zN.slot n ks:Nat)),.sc (.bool (JO zN.slot n ks))]) 0:=by
 refine Fun.of (fun _=>[]) Tryz.func234 rfl (zi rfl) (by kernel_rfl) ?_;dsimp only[Tryz.f234]
 push_cast -dsimp
 refine loop (fun p:Nat×Nat=>⟨[(0,.sl 4 (zE ks)),(1,.sc (.int .i64 n)),(2,.clo (.func 235) [] [.row [.clo (.func 206) [] []]]),(8,.sc (.int .i64 (ks.length:Nat))),(9,.sc (.int .i64 p.1)),(10,.sc (.int .i64 p.2))],[],0,0⟩)
  (fun p=>p.1<=p.2/\p.2<=ks.length/\(∀ t (h:t<ks.length),t<p.1->(jD).lt (zN.slot ks[t]) n=true)/\∀ t (h:t<ks.length),p.2<=t->(jD).lt (zN.slot ks[t]) n=false) (fun p=>p.2-p.1) (0,ks.length) ⟨Nat.zero_le _,Nat.le_refl _,fun t _ h=>by (simp at h),fun t h h'=>by (dsimp only at h';omega)⟩ ?_ ?_
 ·exact zH.mk [] rfl rfl (Nat.le_refl _) rfl (by push_cast -dsimp [zb,za,CLe,zd,List.length_map]) (by push_cast -dsimp [zb,za,CLe,zd])
 ·rintro ⟨i,j⟩ ⟨h1,h2,h3,h4⟩
  dsimp only at h1 h2 h3 h4 ⊢
  by_cases h:i<j
  ·obtain ⟨m,hm⟩:∃ m,m=(i+j) / 2:=⟨_,rfl⟩
   have hmi:((i:Int)+(j:Int)) / 2=(m:Int):=by omega
   have hml:m<ks.length:=by omega
   have hat:=jj ks m hml
   have hlt:=(zdN ks[m].slot n)
   push_cast -dsimp [h,hmi,hat]
   (try simp only[lS]);repeat refine And.intro (by omega) ?_
   refine cl ((y8 ks[m] n)) ?_;push_cast -dsimp
   cases hc:(jD).lt (zN.slot ks[m]) n with
   | true =>
    have hcv:(VH ks[m].slot n<0)=True:=eq_true (hlt.mpr hc)
    push_cast -dsimp [hcv]
    (try simp only[lS]);repeat refine And.intro (by omega) ?_
    refine ⟨(m+1,j),⟨by omega,h2,fun t ht hlt2=>?_,h4⟩,by dsimp only;omega,zH.mk [] rfl rfl (Nat.le_refl _) rfl (by push_cast -dsimp [zb,za,CLe,zd]) (by push_cast -dsimp [zb,za,CLe,zd])⟩
    dsimp only at hlt2
    rcases Nat.lt_or_ge t m with q | q
    ·exact (jD).tr ((List.pairwise_iff_getElem.1 hR) t m ht hml q) hc
    ·have:t=m:=by omega
     subst this;exact hc
   | false =>
    have hcv:(VH ks[m].slot n<0)=False:=eq_false (fun e=>by have h7:(jD).lt (zN.slot ks[m]) n=true:=hlt.mp e;rw[hc]at h7;cases h7)
    push_cast -dsimp [hcv]
    (try simp only[lS]);repeat refine And.intro (by omega) ?_
    refine ⟨(i,m),⟨by omega,by omega,h3,fun t ht hge=>?_⟩,by dsimp only;omega,zH.mk [] rfl rfl (Nat.le_refl _) rfl (by push_cast -dsimp [zb,za,CLe,zd]) (by push_cast -dsimp [zb,za,CLe,zd])⟩
    dsimp only at hge
    rcases Nat.lt_or_ge m t with q | q
    ·cases h9:(jD).lt (zN.slot ks[t]) n with
     | false=>rfl
     | true=>have:=(jD).tr ((List.pairwise_iff_getElem.1 hR) m t hml ht q) h9;rw[hc]at this;cases this
    ·have:t=m:=by omega
     subst this;exact hc
  ·have hij:i=j:=by omega
   subst hij
   have hrk:=Qx (o:=jD) (key:=zN.slot) n ks i h2 h3 h4
   push_cast -dsimp [h]
   refine br (fun hx=>?_) (fun hx=>?_)
   ·have hx:i<ks.length:=by simpa using hx
    have hat:=jj ks i hx
    have hh:=x7 n hR hrk hx
    push_cast -dsimp [hx,hat]
    (try simp only[lS]);repeat refine And.intro (by omega) ?_
    refine cl ((y8 ks[i] n)) ?_;push_cast -dsimp
    have hcv:decide (VH ks[i].slot n=0)=JO zN.slot n ks:=by
     rw[hh]
     exact decide_eq_decide.2 (zec ks[i].slot n)
    push_cast -dsimp [hcv]
    exact ⟨[],rfl,rfl,by push_cast -dsimp [zb,za,CLe,zd,hrk]⟩
   ·have hx:¬i<ks.length:=by simpa using hx
    have hh:=H6 n hR (by omega)
    push_cast -dsimp [hx]
    exact ⟨[],rfl,rfl,by push_cast -dsimp [zb,za,CLe,zd,hrk,hh]⟩
theorem yw (ks:List zN) (n:Int) (hl:ks.length<=100000) (hR:qF jD zN.slot ks):Fun Tryz.prog G 205 [.sl 4 (zE ks),.sc (.int .i64 n),.clo (.func 206) [] []] (.tup [.sc (.int .i64 (ql jD zN.slot n ks:Nat)),.sc (.bool (JO zN.slot n ks))]) 0:=by
 refine Fun.of (fun _=>[]) Tryz.func205 rfl (zi rfl) (by kernel_rfl) ?_;dsimp only[Tryz.f205]
 push_cast -dsimp
 refine znJ [.sl 4 (zE ks),.sc (.int .i64 n),.clo (.func 235) [] [.row [.clo (.func 206) [] []]]] (NE ks n hl hR) rfl ?_ ?_
 ·simp[Xh,Xq,C.frz,C.frzL]
 push_cast -dsimp
 exact ⟨[],rfl,rfl,by push_cast -dsimp [zb,za,CLe,zd]⟩
def Uf (n:Int) (ks:List zN):zN:=(Ji zN.slot n ks).getD zeq
theorem Nt (w:qv) (n:Int) (hl:w.kept.length<=100000) (hR:qF jD zN.slot w.kept):Fun Tryz.prog G 173 [jv w,.sc (.int .i64 n)] (.tup [.agg (jS (Uf n w.kept)),.sc (.bool (UV n w.kept))]) 0:=by
 obtain ⟨_,_,h3,h4⟩:=Vo n hR
 have h:=yw (G:=G) w.kept n hl hR
 cases hh:JO zN.slot n w.kept with
 | false =>
  have hf:Uf n w.kept=zeq:=by unfold Uf;rw[(h4 hh).1];rfl
  have he:UV n w.kept=false:=hh
  rw[hh]at h
  refine Fun.of (fun _=>[]) Tryz.func173 rfl (zi rfl) (by kernel_rfl) ?_;dsimp only[Tryz.f173]
  push_cast -dsimp
  refine cl (h) ?_;push_cast -dsimp
  exact ⟨[],rfl,rfl,by push_cast -dsimp [zb,za,CLe,zd,hf,he,zeq]⟩
 | true =>
  obtain ⟨hlt,_,g2,_⟩:=h3 hh
  have hf:Uf n w.kept=w.kept[ql jD zN.slot n w.kept]:=by unfold Uf;rw[g2];rfl
  have he:UV n w.kept=true:=hh
  have hat:=jj w.kept _ hlt
  rw[hh]at h
  refine Fun.of (fun _=>[]) Tryz.func173 rfl (zi rfl) (by kernel_rfl) ?_;dsimp only[Tryz.f173]
  push_cast -dsimp
  refine cl (h) ?_;push_cast -dsimp [hat]
  (try simp only[lS]);repeat refine And.intro (by omega) ?_
  exact ⟨[],rfl,rfl,by push_cast -dsimp [zb,za,CLe,zd,hf,he]⟩
end
end
section
open Go.RowKit Go.ChangeMaps Go.ChangeShapes Go.WideShapes Go.Deep Go.Joins
section
variable {H:Type} {enc:TypeId×Value->H} {P:Program} {W:World}
theorem jd.two {t:TypeId} {f1 f2:Field} {k1 k2:Nat} {Q1 Q2:List C->Prop} (hs:P.underlying t=some (.struct #[f1,f2])) (h1:jd enc P W f1.type k1 Q1) (h2:jd enc P W f2.type k2 Q2)
  (e1:f1.offset=0) (e2:P.cellsOf f1.type=k1) (e3:f2.offset=k1) (e4:P.cellsOf f2.type=k2) (e5:P.cellsOf t=k1+k2):jd enc P W t (k1+k2) fun row=>∃ a b,row=a++b/\Q1 a/\Q2 b:=fun fuel cs x hx=>by
 obtain ⟨ys,n',hn',hy,hlen,hyl,hf⟩:=DataW.trod_struct hs hx
 rw[e5]at hlen
 have g1:=hf 0 f1 rfl
 have g2:=hf 1 f2 rfl
 have hy2:ys.length=2:=by simpa using hyl
 rw[e1,e2,List.drop_zero,List.getElem?_eq_getElem (by omega)]at g1
 rw[e3,e4,List.getElem?_eq_getElem (by omega)]at g2
 obtain ⟨a,qa,la,la',ra⟩:=h1 _ _ _ g1
 obtain ⟨b,qb,lb,lb',rb⟩:=h2 _ _ _ g2
 refine ⟨a++b,⟨a,b,rfl,qa,qb⟩,by rw[List.length_append,la,lb],hlen,fun j c v h3 h4=>?_⟩
 rcases Nat.lt_or_ge j k1 with hj | hj
 ·rw[List.getElem?_append_left (by omega)]at h3
  exact ra j c v h3 (by rw[List.getElem?_take_of_lt hj];exact h4)
 ·rw[List.getElem?_append_right (by omega),la]at h3
  have hjl:=(List.getElem?_eq_some_iff.1 h3).1
  refine rb (j-k1) c v h3 ?_
  rw[List.getElem?_take_of_lt (by omega),List.getElem?_drop,show k1+(j-k1)=j by omega];exact h4
theorem zh2:jd enc Tryz.prog W 92 4 fun row=>∃ o:zN,row=jS o/\o.data.length<=maxLen:=fun fuel cs x hx=>by
 obtain ⟨row,⟨hl,hq⟩,h1,h2,h3⟩:=jd.struct (W:=W) (enc:=enc) (Qs:=fun j c=>match j with | 0=>∃ n,c = .sc (.int .i64 n)/\(Lit.int .i64 n).wf=true | 1=>∃ n,c = .sc (.int .i64 n)/\(Lit.int .i64 n).wf=true | 2=>∃ b,c = .sc (.bool b) | 3=>∃ l:List UInt8,c = .str l/\l.length<=maxLen | _=>True) Tryz.underlying92 (by kernel_rfl) (by kernel_rfl) (fun j f hj=>by
  match j,hj with
  | 0,hj=>cases hj;exact Opn.int Tryz.underlying3
  | 1,hj=>cases hj;exact Opn.int Tryz.underlying3
  | 2,hj=>cases hj;exact Opn.bool Tryz.underlying4
  | 3,hj=>cases hj;exact Opn.str Tryz.underlying9
  | j+4,hj=>simp at hj) fuel cs x hx
 match row,h1,hq,h3 with
 | [c0,c1,c2,c3],_,hq,h3 =>
  obtain ⟨a,rfl,_⟩:=hq 0 c0 rfl
  obtain ⟨b,rfl,_⟩:=hq 1 c1 rfl
  obtain ⟨c,rfl⟩:=hq 2 c2 rfl
  obtain ⟨d,rfl,hd⟩:=hq 3 c3 rfl
  exact ⟨_,⟨⟨a,b,c,d⟩,rfl,hd⟩,rfl,h2,h3⟩
theorem zdr:Opn enc Tryz.prog W 25 fun c=>∃ xs:List zN,c = .sl 4 (zE xs)/\xs.length<=maxLen/\∀ x∈xs,x.data.length<=maxLen:=fun fuel cs x hx=>by
 obtain ⟨v,c,rfl,⟨rows,rfl,hl,hr⟩,h1,h2⟩:=Opn.slice (W:=W) (enc:=enc) Tryz.underlying25 (show Tryz.prog.cellsOf 92=4 by kernel_rfl) (by decide) zh2 fuel cs x hx
 obtain ⟨xs,rfl,hq⟩:=H1 hr
 exact ⟨v,_,rfl,⟨xs,rfl,by simpa using hl,hq⟩,h1,h2⟩
theorem zb2:jd enc Tryz.prog W 27 2 fun row=>∃ (ks:List zN) (pool:List zy),row = [.sl 4 (zE ks),.sl 6 (zp pool)]/\ks.length<=maxLen/\pool.length<=maxLen:=fun fuel cs x hx=>by
 obtain ⟨row,⟨hl,hq⟩,h1,h2,h3⟩:=jd.struct (W:=W) (enc:=enc) (Qs:=fun j c=>match j with | 0=>∃ xs:List zN,c = .sl 4 (zE xs)/\xs.length<=maxLen/\∀ x∈xs,x.data.length<=maxLen | 1=>∃ xs:List zy,c = .sl 6 (zp xs)/\xs.length<=maxLen/\∀ x∈xs,zdj x | _=>True) Tryz.underlying27 (by kernel_rfl) (by kernel_rfl) (fun j f hj=>by
  match j,hj with
  | 0,hj=>cases hj;exact zdr
  | 1,hj=>cases hj;exact vm
  | j+2,hj=>simp at hj) fuel cs x hx
 match row,h1,hq,h3 with
 | [c0,c1],_,hq,h3 =>
  obtain ⟨a,rfl,ha,_⟩:=hq 0 c0 rfl
  obtain ⟨b,rfl,hb,_⟩:=hq 1 c1 rfl
  exact ⟨_,⟨a,b,rfl,ha,hb⟩,rfl,h2,h3⟩
theorem zbN:jd enc Tryz.prog W 29 6 fun row=>∃ w:qv,row=kg w/\w.fs.xs.length<=maxLen:=fun fuel cs x hx=>by
 obtain ⟨row,⟨a,b,rfl,⟨f,rfl,hf,_⟩,⟨ks,pool,rfl,_⟩⟩,h1,h2,h3⟩:=jd.two (W:=W) (enc:=enc) Tryz.underlying29 znd zb2 rfl (by kernel_rfl) rfl (by kernel_rfl) (by kernel_rfl) fuel cs x hx
 exact ⟨_,⟨⟨f,ks,pool⟩,rfl,hf⟩,h1,h2,h3⟩
end
end
section
open CA CB
open Go.RowKit
section
variable {G:zm}
theorem zW {ks:List zN}:∀ r∈zE ks,r.length=4:=fun r hr=>by
 obtain ⟨x,_,rfl⟩:=List.mem_map.1 hr;rfl
theorem zr {ks:List zN}:jq (zE ks):=fun r hr=>by
 obtain ⟨x,_,rfl⟩:=List.mem_map.1 hr;rfl
theorem NB (w:qv) (k:zN) (hl:w.kept.length<=90000) (hR:qF jD zN.slot w.kept) (hn:UV k.slot w.kept=false):Fun Tryz.prog G 179 [jv w,.agg (jS k)] (jv { w with kept:=qu k w.kept }) 0:=by
 obtain ⟨_,_,h3,h4⟩:=Vo (o:=jD) k.slot hR
 have hll:(zE w.kept).length=w.kept.length:=List.length_map ..
 have hat:=yw (G:=G) w.kept k.slot (by omega) hR
 have hrl:=QH (o:=jD) (key:=zN.slot) k.slot w.kept
 have hn':JO zN.slot k.slot w.kept=false:=hn
 rw[hn']at hat
 have hw:qu k w.kept=w.kept.take (ql jD zN.slot k.slot w.kept)++k :: w.kept.drop (ql jD zN.slot k.slot w.kept):=(h4 hn').2.2 k rfl
 have hset:zE (qu k w.kept)=(zE w.kept).take (ql jD zN.slot k.slot w.kept)++jS k :: (zE w.kept).drop (ql jD zN.slot k.slot w.kept):=by rw[hw];simp
 have hsl:(zE (qu k w.kept)).length=(zE w.kept).length+1:=by rw[hset];simp;omega
 refine Fun.ofF (fun i=>if i=2 then kN [(0,.pure),(1,.pure),(2,.pure),(4,.pure),(5,.pure),(6,.pure),(3,.flt [3,4,5]),(7,.bar),(8,.pure),(9,.pure),(10,.bar)] else []) Tryz.func179 rfl (zi rfl) (by kernel_rfl) ?_;dsimp only[Tryz.f179]
 push_cast -dsimp
 refine cl (hat) ?_;push_cast -dsimp
 refine zjv [] (Hc (zE w.kept) zW zr (by omega)) (by decide) (by simp) (by push_cast -dsimp) (by push_cast -dsimp) (fun r bx' m hp=>?_)
 obtain ⟨rfl,⟨hne,c,h1,h2,rfl,rfl⟩ | ⟨he,⟨rfl,rfl⟩ | ⟨rfl,rfl⟩⟩⟩:=hp
 ·have hbl:=Jq zW h1
  have hre:∀ fp fo,C.reL fp fo (qo 4 (zE w.kept) c)=qo 4 (zE w.kept) c:=fun fp fo=>zD (zC zr)
  have hpos:=List.length_pos_iff.2 hne
  have hre2:∀ fp fo c,C.reL fp fo (qo 4 (zE (qu k w.kept)) c)=qo 4 (zE (qu k w.kept)) c:=fun fp fo c=>zD (zC zr)
  push_cast -dsimp [hre]
  refine Jx [4] [0] (VE (e:=92) (zE w.kept) (jS k) (ql jD zN.slot k.slot w.kept) c zW rfl zr rfl (by omega) (by omega) h1 h2) rfl (by decide) (by decide) (by simp) (by push_cast -dsimp) (by push_cast -dsimp [hre]) (fun r bx' m hp=>?_)
  rw[←hset]at hp
  obtain ⟨rfl,c',g1,g2,⟨rfl,rfl⟩ | ⟨rfl,rfl⟩⟩:=hp
  ·push_cast -dsimp [hre2,hre]
   exact ⟨[(4,92,4,zE (qu k w.kept),c')],[],zw rfl (by omega) g1 g2 zW zr,rfl,rfl,by push_cast -dsimp [zb,za,CLe,zd]⟩
  ·have hra:∀ fp fo,C.reL fp fo (List.replicate (c*4) .any)=List.replicate (c*4) .any:=fun fp fo=>zD (by simp[List.all_replicate,C.stayB])
   push_cast -dsimp [hre2,hre,hra]
   exact ⟨[(5,92,4,zE (qu k w.kept),c')],[],zw rfl (by omega) g1 g2 zW zr,rfl,rfl,by push_cast -dsimp [zb,za,CLe,zd]⟩
 ·have he:w.kept = []:=by simpa using he
  have hr0:ql jD zN.slot k.slot w.kept=0:=by rw[he];rfl
  have hs1:qu k w.kept = [k]:=by rw[he];rfl
  push_cast -dsimp [hr0]
  refine Jx [] [0] (vx (e:=92) (jS k) rfl rfl) rfl (by decide) (by decide) (by simp) (by push_cast -dsimp) (by push_cast -dsimp) (fun r bx' m hp=>?_)
  obtain ⟨rfl,c,g1,g2,rfl,rfl⟩:=hp
  have hre:∀ fp fo,C.reL fp fo (qo 4 [jS k] c)=qo 4 [jS k] c:=fun fp fo=>zD (zC (zr (ks:=[k])))
  push_cast -dsimp [hre]
  exact ⟨[(3,92,4,zE [k],c)],[],zw rfl (by omega) g1 g2 zW zr,rfl,rfl,by push_cast -dsimp [zb,za,CLe,zd,hs1]⟩
 ·have he:w.kept = []:=by simpa using he
  have hr0:ql jD zN.slot k.slot w.kept=0:=by rw[he];rfl
  have hs1:qu k w.kept = [k]:=by rw[he];rfl
  push_cast -dsimp [hr0]
  refine Jx [3] [0] (VE (e:=92) [] (jS k) 0 0 (fun r hr=>by cases hr) rfl (fun r hr=>by cases hr) rfl (by simp) (by simp) (by simp) (by simp)) rfl (by decide) (by decide) (by simp) (by push_cast -dsimp) (by push_cast -dsimp [qo]) (fun r bx' m hp=>?_)
  obtain ⟨rfl,c,g1,g2,hp⟩:=hp
  have hre:∀ fp fo,C.reL fp fo (qo 4 [jS k] c)=qo 4 [jS k] c:=fun fp fo=>zD (zC (zr (ks:=[k])))
  rcases hp with ⟨rfl,rfl⟩ | ⟨rfl,rfl⟩
  ·push_cast -dsimp [hre]
   exact ⟨[(3,92,4,zE [k],c)],[],zw rfl (Nat.lt_of_lt_of_le (Nat.zero_lt_succ _) g1) g1 g2 zW zr,rfl,rfl,by push_cast -dsimp [zb,za,CLe,zd,hs1]⟩
  ·push_cast -dsimp [hre]
   exact ⟨[(4,92,4,zE [k],c)],[],zw rfl (Nat.lt_of_lt_of_le (Nat.zero_lt_succ _) g1) g1 g2 zW zr,rfl,rfl,by push_cast -dsimp [zb,za,CLe,zd,hs1]⟩
theorem Zc (f:FsV) (hf:FsI f) (hs:FsS f) (p:List UInt8) (hp:p.length<=100000):Fun Tryz.prog G0 170 [.agg (fsC f),.str p] (.tup [.agg (YB (isV f p true).1),.agg (JU (isV f p true).2.1),.sc (.int .i64 (isV f p true).2.2)]) 0:=by
 have h1:=y9 f hf hs p hp
 have h2:=jP (G:=G0) f (atV f p).1.ino (by have:=hs.len;omega) hf.rises
 have e1:(isV f p true).1=(atV f p).1:=rfl
 have e2:(isV f p true).2.1=zg (atV f p).1.ino f.xs:=rfl
 by_cases h0:(atV f p).2=0
 ·have h0':=eq_true h0
  cases hz:zF (atV f p).1.ino f.xs with
  | true =>
   have e3:(isV f p true).2.2=0:=by unfold isV;simp[h0,hz]
   rw[hz]at h2
   refine Fun.of (fun i=>if i=4 then kN [(0,.pure),(1,.pure),(2,.pure),(3,.flt [1,2]),(4,.flt [2]),(5,.pure)] else if i=6 then Xj 2 [true,false] else if i=7 then Xj 2 [true,false] else []) Tryz.func170 rfl (zi rfl) (by kernel_rfl) ?_;dsimp only[Tryz.f170]
   push_cast -dsimp
   refine cl (h1) ?_;push_cast -dsimp
   refine cl (h2) ?_;push_cast -dsimp [h0']
   exact ⟨[],rfl,rfl,by push_cast -dsimp [zb,za,CLe,zd,e1,e2,e3]⟩
  | false =>
   have e3:(isV f p true).2.2=1:=by unfold isV;simp[h0,hz]
   rw[hz]at h2
   refine Fun.of (fun i=>if i=4 then kN [(0,.pure),(1,.pure),(2,.pure),(3,.flt [1,2]),(4,.flt [2]),(5,.pure)] else if i=6 then Xj 2 [true,false] else if i=7 then Xj 2 [true,false] else []) Tryz.func170 rfl (zi rfl) (by kernel_rfl) ?_;dsimp only[Tryz.f170]
   push_cast -dsimp
   refine cl (h1) ?_;push_cast -dsimp
   refine cl (h2) ?_;push_cast -dsimp [h0']
   exact ⟨[],rfl,rfl,by push_cast -dsimp [zb,za,CLe,zd,e1,e2,e3]⟩
 ·have h0':=eq_false h0
  have e3:(isV f p true).2.2=(atV f p).2:=by unfold isV;simp[h0]
  refine Fun.of (fun i=>if i=4 then kN [(0,.pure),(1,.pure),(2,.pure),(3,.flt [1,2]),(4,.flt [2]),(5,.pure)] else if i=6 then Xj 2 [true,false] else if i=7 then Xj 2 [true,false] else []) Tryz.func170 rfl (zi rfl) (by kernel_rfl) ?_;dsimp only[Tryz.f170]
  push_cast -dsimp
  refine cl (h1) ?_;push_cast -dsimp
  refine cl (h2) ?_;push_cast -dsimp [h0',ite_self]
  exact ⟨[],rfl,rfl,by push_cast -dsimp [zb,za,CLe,zd,e1,e2,e3]⟩
end
end
section
open CA CB
open Go.RowKit
section
variable {G:zm}
theorem zid (k:zy):Fun Tryz.prog G 176 [.agg (JU k)] (.sc (.int .i64 k.ino)) 0:=by
 refine Fun.of (fun _=>[]) Tryz.func176 rfl (zi rfl) (by kernel_rfl) ?_;dsimp only[Tryz.f176]
 push_cast -dsimp
 exact ⟨[],rfl,rfl,by push_cast -dsimp [zb,za,CLe,zd]⟩
theorem vh (k:zy) (n:Int):Fun Tryz.prog G 209 [.agg (JU k),.sc (.int .i64 n),.row [.clo (.func 176) [] []]] (.sc (.int .i64 (VH k.ino n))) 0:=by
 refine Fun.of (fun _=>[]) Tryz.func209 rfl (zi rfl) (by kernel_rfl) ?_;dsimp only[Tryz.f209]
 push_cast -dsimp
 refine cl (zid k) ?_;push_cast -dsimp
 refine cl (xQ k.ino n) ?_;push_cast -dsimp
 exact ⟨[],rfl,rfl,by push_cast -dsimp [zb,za,CLe,zd]⟩
theorem Mb (ks:List zy) (n:Int) (hl:ks.length<=100000) (hR:qF jD zy.ino ks) :
  Fun Tryz.prog G 208 [.sl 6 (zp ks),.sc (.int .i64 n),.clo (.func 209) [] [.row [.clo (.func 176) [] []]]] (.tup [.sc (.int .i64 (ql jD zy.ino n ks:Nat)),.sc (.bool (JO zy.ino n ks))]) 0:=by
 refine Fun.of (fun _=>[]) Tryz.func208 rfl (zi rfl) (by kernel_rfl) ?_;dsimp only[Tryz.f208]
 push_cast -dsimp
 refine loop (fun p:Nat×Nat=>⟨[(0,.sl 6 (zp ks)),(1,.sc (.int .i64 n)),(2,.clo (.func 209) [] [.row [.clo (.func 176) [] []]]),(8,.sc (.int .i64 (ks.length:Nat))),(9,.sc (.int .i64 p.1)),(10,.sc (.int .i64 p.2))],[],0,0⟩)
  (fun p=>p.1<=p.2/\p.2<=ks.length/\(∀ t (h:t<ks.length),t<p.1->(jD).lt (zy.ino ks[t]) n=true)/\∀ t (h:t<ks.length),p.2<=t->(jD).lt (zy.ino ks[t]) n=false) (fun p=>p.2-p.1) (0,ks.length) ⟨Nat.zero_le _,Nat.le_refl _,fun t _ h=>by (simp at h),fun t h h'=>by (dsimp only at h';omega)⟩ ?_ ?_
 ·exact zH.mk [] rfl rfl (Nat.le_refl _) rfl (by push_cast -dsimp [zb,za,CLe,zd,List.length_map]) (by push_cast -dsimp [zb,za,CLe,zd])
 ·rintro ⟨i,j⟩ ⟨h1,h2,h3,h4⟩
  dsimp only at h1 h2 h3 h4 ⊢
  by_cases h:i<j
  ·obtain ⟨m,hm⟩:∃ m,m=(i+j) / 2:=⟨_,rfl⟩
   have hmi:((i:Int)+(j:Int)) / 2=(m:Int):=by omega
   have hml:m<ks.length:=by omega
   have hat:=qS ks m hml
   have hlt:=(zdN ks[m].ino n)
   push_cast -dsimp [h,hmi,hat]
   (try simp only[lS]);repeat refine And.intro (by omega) ?_
   refine cl ((vh ks[m] n)) ?_;push_cast -dsimp
   cases hc:(jD).lt (zy.ino ks[m]) n with
   | true =>
    have hcv:(VH ks[m].ino n<0)=True:=eq_true (hlt.mpr hc)
    push_cast -dsimp [hcv]
    (try simp only[lS]);repeat refine And.intro (by omega) ?_
    refine ⟨(m+1,j),⟨by omega,h2,fun t ht hlt2=>?_,h4⟩,by dsimp only;omega,zH.mk [] rfl rfl (Nat.le_refl _) rfl (by push_cast -dsimp [zb,za,CLe,zd]) (by push_cast -dsimp [zb,za,CLe,zd])⟩
    dsimp only at hlt2
    rcases Nat.lt_or_ge t m with q | q
    ·exact (jD).tr ((List.pairwise_iff_getElem.1 hR) t m ht hml q) hc
    ·have:t=m:=by omega
     subst this;exact hc
   | false =>
    have hcv:(VH ks[m].ino n<0)=False:=eq_false (fun e=>by have h7:(jD).lt (zy.ino ks[m]) n=true:=hlt.mp e;rw[hc]at h7;cases h7)
    push_cast -dsimp [hcv]
    (try simp only[lS]);repeat refine And.intro (by omega) ?_
    refine ⟨(i,m),⟨by omega,by omega,h3,fun t ht hge=>?_⟩,by dsimp only;omega,zH.mk [] rfl rfl (Nat.le_refl _) rfl (by push_cast -dsimp [zb,za,CLe,zd]) (by push_cast -dsimp [zb,za,CLe,zd])⟩
    dsimp only at hge
    rcases Nat.lt_or_ge m t with q | q
    ·cases h9:(jD).lt (zy.ino ks[t]) n with
     | false=>rfl
     | true=>have:=(jD).tr ((List.pairwise_iff_getElem.1 hR) m t hml ht q) h9;rw[hc]at this;cases this
    ·have:t=m:=by omega
     subst this;exact hc
  ·have hij:i=j:=by omega
   subst hij
   have hrk:=Qx (o:=jD) (key:=zy.ino) n ks i h2 h3 h4
   push_cast -dsimp [h]
   refine br (fun hx=>?_) (fun hx=>?_)
   ·have hx:i<ks.length:=by simpa using hx
    have hat:=qS ks i hx
    have hh:=x7 n hR hrk hx
    push_cast -dsimp [hx,hat]
    (try simp only[lS]);repeat refine And.intro (by omega) ?_
    refine cl ((vh ks[i] n)) ?_;push_cast -dsimp
    have hcv:decide (VH ks[i].ino n=0)=JO zy.ino n ks:=by
     rw[hh]
     exact decide_eq_decide.2 (zec ks[i].ino n)
    push_cast -dsimp [hcv]
    exact ⟨[],rfl,rfl,by push_cast -dsimp [zb,za,CLe,zd,hrk]⟩
   ·have hx:¬i<ks.length:=by simpa using hx
    have hh:=H6 n hR (by omega)
    push_cast -dsimp [hx]
    exact ⟨[],rfl,rfl,by push_cast -dsimp [zb,za,CLe,zd,hrk,hh]⟩
theorem zkp (ks:List zy) (n:Int) (hl:ks.length<=100000) (hR:qF jD zy.ino ks):Fun Tryz.prog G 175 [.sl 6 (zp ks),.sc (.int .i64 n),.clo (.func 176) [] []] (.tup [.sc (.int .i64 (ql jD zy.ino n ks:Nat)),.sc (.bool (JO zy.ino n ks))]) 0:=by
 refine Fun.of (fun _=>[]) Tryz.func175 rfl (zi rfl) (by kernel_rfl) ?_;dsimp only[Tryz.f175]
 push_cast -dsimp
 refine znJ [.sl 6 (zp ks),.sc (.int .i64 n),.clo (.func 209) [] [.row [.clo (.func 176) [] []]]] (Mb ks n hl hR) rfl ?_ ?_
 ·simp[Xh,Xq,C.frz,C.frzL]
 push_cast -dsimp
 exact ⟨[],rfl,rfl,by push_cast -dsimp [zb,za,CLe,zd]⟩
end
end
section
open CA CB
open Go.RowKit
section
variable {G:zm}
abbrev zoi (w:qv) (kc pc:C):C:=.agg [.sc (.int .i64 w.fs.maxI),.sc (.int .i64 w.fs.maxB),.sc (.int .i64 w.fs.next),.sl 6 (zp w.fs.xs),kc,pc]
def zph (w:qv) (k:zN) (B:List C) (pn pc:Nat) (r:C) (bx':List (List C)) (m:Nat):Prop:=
 m=0/\∃ (c':Nat) (Ls:List (List C)),(Ls = []∨(∃ X,Ls = [X]/\(X.all C.stayB)=true)∨∃ X Y,Ls = [X,Y]/\(X.all C.stayB)=true/\(Y.all C.stayB)=true)/\(zE (qu k w.kept)).length<=c'/\c'<=9223372036854775807/\r=zoi w (.bs (4+Ls.length) 0 4 (zE (qu k w.kept)).length c') (.bs 0 0 6 pn pc) /\
  bx'=B :: [.any,.any,.any,.any,.any,.any] :: [.any,.any,.any,.any] :: [.any,.any,.any,.any,.any,.any] :: (Ls++[qo 4 (zE (qu k w.kept)) c'])
theorem UU (w:qv) (k:zN) (B:List C) (pn pc:Nat) (hB:(B.all C.stayB)=true) (hl:w.kept.length<=90000) (hR:qF jD zN.slot w.kept) (hn:UV k.slot w.kept=false):JI Tryz.prog G 179 [zoi w (.sl 4 (zE w.kept)) (.bs 0 0 6 pn pc),.agg (jS k)] [B] 0 (zph w k B pn pc):=by
 obtain ⟨_,_,h3,h4⟩:=Vo (o:=jD) k.slot hR
 have hll:(zE w.kept).length=w.kept.length:=List.length_map ..
 have hat:=yw (G:=G) w.kept k.slot (by omega) hR
 have hrl:=QH (o:=jD) (key:=zN.slot) k.slot w.kept
 have hn':JO zN.slot k.slot w.kept=false:=hn
 rw[hn']at hat
 have hw:qu k w.kept=w.kept.take (ql jD zN.slot k.slot w.kept)++k :: w.kept.drop (ql jD zN.slot k.slot w.kept):=(h4 hn').2.2 k rfl
 have hset:zE (qu k w.kept)=(zE w.kept).take (ql jD zN.slot k.slot w.kept)++jS k :: (zE w.kept).drop (ql jD zN.slot k.slot w.kept):=by rw[hw];simp
 have hsl:(zE (qu k w.kept)).length=(zE w.kept).length+1:=by rw[hset];simp;omega
 refine JI.of (fun i=>if i=2 then kN [(0,.pure),(1,.pure),(2,.pure),(4,.pure),(5,.pure),(6,.pure),(3,.flt [3,4,5]),(7,.bar),(8,.pure),(9,.pure),(10,.bar)] else []) Tryz.func179 rfl (zi rfl) (by kernel_rfl) ?_;dsimp only[Tryz.f179]
 have hBr:∀ fp fo,C.reL fp fo B=B:=fun fp fo=>zD hB
 push_cast -dsimp
 refine cl (hat) ?_;push_cast -dsimp
 refine zjv [] (Hc (zE w.kept) zW zr (by omega)) (by decide) (by simp) (by push_cast -dsimp) (by push_cast -dsimp) (fun r bx' m hp=>?_)
 obtain ⟨rfl,⟨hne,c,h1,h2,rfl,rfl⟩ | ⟨he,⟨rfl,rfl⟩ | ⟨rfl,rfl⟩⟩⟩:=hp
 ·have hbl:=Jq zW h1
  have hre:∀ fp fo,C.reL fp fo (qo 4 (zE w.kept) c)=qo 4 (zE w.kept) c:=fun fp fo=>zD (zC zr)
  have hpos:=List.length_pos_iff.2 hne
  have hre2:∀ fp fo c,C.reL fp fo (qo 4 (zE (qu k w.kept)) c)=qo 4 (zE (qu k w.kept)) c:=fun fp fo c=>zD (zC zr)
  push_cast -dsimp [hre,hBr]
  refine Jx [5] [0] (VE (e:=92) (zE w.kept) (jS k) (ql jD zN.slot k.slot w.kept) c zW rfl zr rfl (by omega) (by omega) h1 h2) rfl (by decide) (by decide) (by simp) (by push_cast -dsimp [hBr]) (by push_cast -dsimp [hre,hBr]) (fun r bx' m hp=>?_)
  rw[←hset]at hp
  obtain ⟨rfl,c',g1,g2,⟨rfl,rfl⟩ | ⟨rfl,rfl⟩⟩:=hp
  ·push_cast -dsimp [hre2,hre,hBr]
   refine ⟨_,_,0,⟨⟨rfl,c',[[]],.inr (.inl ⟨[],rfl,rfl⟩),g1,g2,rfl,rfl⟩,by simp⟩,[],rfl,rfl,?_,by push_cast -dsimp [zb,za,CLe,zd]⟩
   push_cast -dsimp [zb,za,CLe,zd]
   exact ⟨zX hB,zX (zC zr)⟩
  ·have hra:∀ fp fo,C.reL fp fo (List.replicate (c*4) .any)=List.replicate (c*4) .any:=fun fp fo=>zD (by simp[List.all_replicate,C.stayB])
   push_cast -dsimp [hre2,hre,hra,hBr]
   refine ⟨_,_,0,⟨⟨rfl,c',[[],List.replicate (c*4) .any],.inr (.inr ⟨[],_,rfl,rfl,by simp[List.all_replicate,C.stayB]⟩),g1,g2,rfl,rfl⟩,by simp⟩,[],rfl,rfl,?_,by push_cast -dsimp [zb,za,CLe,zd]⟩
   push_cast -dsimp [zb,za,CLe,zd]
   exact ⟨zX hB,zX (by simp[List.all_replicate,C.stayB]),zX (zC zr)⟩
 ·have he:w.kept = []:=by simpa using he
  have hr0:ql jD zN.slot k.slot w.kept=0:=by rw[he];rfl
  have hs1:qu k w.kept = [k]:=by rw[he];rfl
  push_cast -dsimp [hr0]
  refine Jx [] [0] (vx (e:=92) (jS k) rfl rfl) rfl (by decide) (by decide) (by simp) (by push_cast -dsimp) (by push_cast -dsimp) (fun r bx' m hp=>?_)
  obtain ⟨rfl,c,g1,g2,rfl,rfl⟩:=hp
  have hre:∀ fp fo,C.reL fp fo (qo 4 [jS k] c)=qo 4 [jS k] c:=fun fp fo=>zD (zC (zr (ks:=[k])))
  push_cast -dsimp [hre,hBr]
  refine ⟨zoi w (.bs 4 0 4 1 c) (.bs 0 0 6 pn pc),B :: [.any,.any,.any,.any,.any,.any] :: [.any,.any,.any,.any] :: [.any,.any,.any,.any,.any,.any] :: ([]++[qo 4 [jS k] c]),0,⟨⟨rfl,c,[],.inl rfl,by rw[hs1];exact g1,g2,by rw[hs1];rfl,by rw[hs1];rfl⟩,by simp⟩,[],rfl,rfl,?_,by push_cast -dsimp [zb,za,CLe,zd]⟩
  push_cast -dsimp [zb,za,CLe,zd]
  exact ⟨zX hB,zX (zC (zr (ks:=[k])))⟩
 ·have he:w.kept = []:=by simpa using he
  have hr0:ql jD zN.slot k.slot w.kept=0:=by rw[he];rfl
  have hs1:qu k w.kept = [k]:=by rw[he];rfl
  push_cast -dsimp [hr0]
  refine Jx [4] [0] (VE (e:=92) [] (jS k) 0 0 (fun r hr=>by cases hr) rfl (fun r hr=>by cases hr) rfl (by simp) (by simp) (by simp) (by simp)) rfl (by decide) (by decide) (by simp) (by push_cast -dsimp) (by push_cast -dsimp [qo]) (fun r bx' m hp=>?_)
  obtain ⟨rfl,c,g1,g2,hp⟩:=hp
  have hre:∀ fp fo,C.reL fp fo (qo 4 [jS k] c)=qo 4 [jS k] c:=fun fp fo=>zD (zC (zr (ks:=[k])))
  rcases hp with ⟨rfl,rfl⟩ | ⟨rfl,rfl⟩
  ·push_cast -dsimp [hre,hBr]
   refine ⟨zoi w (.bs 4 0 4 1 c) (.bs 0 0 6 pn pc),B :: [.any,.any,.any,.any,.any,.any] :: [.any,.any,.any,.any] :: [.any,.any,.any,.any,.any,.any] :: ([]++[qo 4 [jS k] c]),0,⟨⟨rfl,c,[],.inl rfl,by rw[hs1];exact g1,g2,by rw[hs1];rfl,by rw[hs1];rfl⟩,by simp⟩,[],rfl,rfl,?_,by push_cast -dsimp [zb,za,CLe,zd]⟩
   push_cast -dsimp [zb,za,CLe,zd]
   exact ⟨zX hB,zX (zC (zr (ks:=[k])))⟩
  ·push_cast -dsimp [hre,hBr]
   refine ⟨zoi w (.bs 5 0 4 1 c) (.bs 0 0 6 pn pc),B :: [.any,.any,.any,.any,.any,.any] :: [.any,.any,.any,.any] :: [.any,.any,.any,.any,.any,.any] :: ([[]]++[qo 4 [jS k] c]),0,⟨⟨rfl,c,[[]],.inr (.inl ⟨[],rfl,rfl⟩),by rw[hs1];exact g1,g2,by rw[hs1];rfl,by rw[hs1];rfl⟩,by simp⟩,[],rfl,rfl,?_,by push_cast -dsimp [zb,za,CLe,zd]⟩
   push_cast -dsimp [zb,za,CLe,zd]
   exact ⟨zX hB,zX (zC (zr (ks:=[k])))⟩
end
end
section
open CA CB
open Go.RowKit
theorem jl {bx:List (List C)} {a b:Nat×TypeId×Nat×List (List C)×Nat} (h1:zfO [a] bx) (h2:zfO [b] bx) (hne:a.1≠b.1):zfO [a,b] bx:=⟨by simp[hne],fun x hx=>by
 rcases List.mem_cons.1 hx with rfl | hx
 ·exact h1.2 _ List.mem_cons_self
 ·exact h2.2 _ hx⟩
theorem zaA {f:FsV} (hf:FsI f) {s:qM} (hs:qg f s):(zR f s).xs.length<=f.xs.length:=by
 have hi:=qg.ino hf hs
 have hl:=jM (F:=zh s.name) hf.rises hs.has
 unfold zR
 split
 ·show (qk _ _).length<=_
  exact Nat.le_trans Q9 (by rw[hl];exact Nat.le_refl _)
 ·show (qH _ _).length<=_
  rw[XS (show qc (qK s.dir (zh s.name) f.xs) from qd hf.rises) ?_,hl]
  ·exact Nat.le_refl _
  ·show zF (zg s.ino f.xs).ino (qK _ _ _)=true
   rw[(zk hi).2.2,qh hs.has];exact hi
theorem ziZ {xs:List zy} (h:qc xs):qF jD zy.ino xs:=List.Pairwise.imp (fun {a b} h=>by show decide (a.ino<b.ino)=true;exact decide_eq_true h) h
theorem zjk (x:zy):∀ xs:List zy,QX x xs=Xa jD zy.ino x xs
 | []=>rfl
 | y :: r=>by
  unfold QX Xa
  rw[zjk x r]
  have e:jD.lt x.ino y.ino=decide (x.ino<y.ino):=rfl
  rw[e]
  by_cases h:x.ino<y.ino
  ·rw[if_pos h,if_pos (decide_eq_true h)]
  ·rw[if_neg h,if_neg (by simpa using h)]
theorem zkV {x:zy} {xs:List zy} (hR:qc xs) (h:∀ y∈xs,y.ino≠x.ino):qH x xs=xs.take (ql jD zy.ino x.ino xs)++x :: xs.drop (ql jD zy.ino x.ino xs):=by
 have h1:qk x.ino xs=xs:=List.filter_eq_self.2 fun y hy=>by simpa using h y hy
 have h2:JO zy.ino x.ino xs=false:=by
  unfold JO
  rw[List.any_eq_false]
  intro y hy
  simpa using h y hy
 obtain ⟨_,_,_,h4⟩:=Vo (o:=jD) x.ino (ziZ hR)
 unfold qH
 rw[h1,zjk]
 exact (h4 h2).2.2 x rfl
theorem zhn (w:qv) (hw:Xc w) (hs:FsS w.fs) (hk:w.kept.length<=90000) (hp:w.pool.length<=90000) (n:Int) (s:qM) (hsp:qg w.fs s) (he:(zg s.ino w.fs.xs).es = []):Fun Tryz.prog G0 146 [jv w,.sc (.int .i64 n),.agg (YB s)] (.tup [jv (JM w n s).1,.sc (.int .i64 (JM w n s).2)]) 0:=by
 have hf:=hw.fs
 have hlen:=hs.len
 have hino:=hsp.ino hf
 have h1:=Nt (G:=G0) w n (by omega) hw.kept
 cases hh:UV n w.kept with
 | true =>
  have e:JM w n s=(w,13):=by unfold JM;rw[hh];rfl
  rw[hh]at h1
  refine Fun.of (fun i=>if i=10 then kN [(0,.pure),(1,.pure),(2,.pure),(4,.pure),(5,.pure),(6,.pure),(3,.flt [3,4,5]),(7,.bar),(8,.pure),(9,.pure),(10,.bar)] else []) Tryz.func146 rfl (zi rfl) (by kernel_rfl) ?_;dsimp only[Tryz.f146]
  push_cast -dsimp
  refine cl (h1) ?_;push_cast -dsimp
  exact ⟨[],rfl,rfl,by push_cast -dsimp [zb,za,CLe,zd,e]⟩
 | false =>
  rw[hh]at h1
  have hg:=jP (G:=G0) w.fs s.ino (by omega) hf.rises
  rw[hino]at hg
  have hne:s.dir≠s.ino:=fun e=>by
   have:=hsp.there
   rw[e,he]at this;cases this
  have hu:=uG w.fs hf hs s hsp hne
  have hul:=zaA hf hsp
  have hg2:=jP (G:=G0) (zR w.fs s) s.ino (by omega) (GY hf hsp he).rises
  rw[kp hsp.has hino]at hg2
  by_cases hz:(zg s.ino w.fs.xs).links=1
  ·rw[if_pos (show (zg s.ino w.fs.xs).links-1=0 by omega)]at hg2
   simp only[decide_true,Bool.not_true,Bool.false_and]at hg2
   have hxi:=(zk hino).2.2
   have hno:∀ y∈w.pool,y.ino≠s.ino:=fun y hy e=>by
    have:=(hw.apart y hy).1
    rw[e,hino]at this;cases this
   have hnk:JO zy.ino s.ino w.pool=false:=by
    unfold JO
    rw[List.any_eq_false]
    intro y hy
    simpa using hno y hy
   have e:JM w n s=(⟨zR w.fs s,qu ⟨n,s.ino,false,[]⟩ w.kept,qH { zg s.ino w.fs.xs with links:=0,parent:=0 } w.pool⟩,0):=by unfold JM;rw[hh,if_pos hz];rfl
   have hset:=zkV (x:={ zg s.ino w.fs.xs with links:=0,parent:=0 }) hw.pool (fun y hy=>by rw[show ({ zg s.ino w.fs.xs with links:=0,parent:=0 }:zy).ino=(zg s.ino w.fs.xs).ino from rfl,hxi];exact hno y hy)
   rw[show ({ zg s.ino w.fs.xs with links:=0,parent:=0 }:zy).ino=s.ino from hxi]at hset
   have hat:=zkp (G:=G0) w.pool s.ino (by omega) (ziZ hw.pool)
   rw[hnk]at hat
   have hll:(zp w.pool).length=w.pool.length:=List.length_map ..
   have hrl:=QH (o:=jD) (key:=zy.ino) s.ino w.pool
   generalize ql jD zy.ino s.ino w.pool=r at *
   generalize hpl:qH { zg s.ino w.fs.xs with links:=0,parent:=0 } w.pool=pl at *
   have hpc:zp pl=(zp w.pool).take r++[.sc (.int .i64 s.ino),.sc (.int .i64 (zg s.ino w.fs.xs).kind),.sc (.int .i64 0),.str (zg s.ino w.fs.xs).data,.sc (.int .i64 0),.sl 2 (zG (zg s.ino w.fs.xs).es)] :: (zp w.pool).drop r:=by rw[hset];simp[hxi]
   have hpl1:(zp pl).length=(zp w.pool).length+1:=by rw[hpc];simp;omega
   have hre2:∀ fp fo c,C.reL fp fo (qo 6 (zp pl) c)=qo 6 (zp pl) c:=fun fp fo c=>zD (zC zq)
   have hre4:∀ fp fo c,C.reL fp fo (qo 4 (zE (qu ⟨n,s.ino,false,[]⟩ w.kept)) c)=qo 4 (zE (qu ⟨n,s.ino,false,[]⟩ w.kept)) c:=fun fp fo c=>zD (zC zr)
   have hkp:0<(zE (qu ⟨n,s.ino,false,[]⟩ w.kept)).length:=by rw[List.length_map,qu,VF];omega
   refine Fun.ofF (fun i=>if i=10 then kN [(0,.pure),(1,.pure),(2,.pure),(4,.pure),(5,.pure),(6,.pure),(3,.flt [3,4,5]),(7,.bar),(8,.pure),(9,.pure),(10,.bar)] else []) Tryz.func146 rfl (zi rfl) (by kernel_rfl) ?_;dsimp only[Tryz.f146]
   push_cast -dsimp
   refine cl (h1) ?_;push_cast -dsimp
   refine cl (hg) ?_;push_cast -dsimp
   refine cl (hu) ?_;push_cast -dsimp
   refine cl (hg2) ?_;push_cast -dsimp
   rw[hxi]
   refine cl (hat) ?_;push_cast -dsimp
   refine zjv [] (XN (zp w.pool) zS zq (by omega)) (by decide) (by simp) (by push_cast -dsimp) (by push_cast -dsimp) (fun r0 bx' m hp=>?_)
   obtain ⟨rfl,⟨hne',c,c1,c2,rfl,rfl⟩ | ⟨hnil,⟨rfl,rfl⟩ | ⟨rfl,rfl⟩⟩⟩:=hp
   ·have hbl:=Jq zS c1
    have hre:∀ fp fo,C.reL fp fo (qo 6 (zp w.pool) c)=qo 6 (zp w.pool) c:=fun fp fo=>zD (zC zq)
    push_cast -dsimp [hre]
    refine Jx [7] [0] (Vz (e:=75) (zp w.pool) [.sc (.int .i64 s.ino),.sc (.int .i64 (zg s.ino w.fs.xs).kind),.sc (.int .i64 0),.str (zg s.ino w.fs.xs).data,.sc (.int .i64 0),.sl 2 (zG (zg s.ino w.fs.xs).es)] r c zS rfl zq rfl (by omega) (by omega) c1 c2) rfl (by decide) (by decide) (by simp) (by push_cast -dsimp) (by push_cast -dsimp [hre]) (fun r1 bx' m hp=>?_)
    rw[←hpc]at hp
    obtain ⟨rfl,c',g1,g2,⟨rfl,rfl⟩ | ⟨rfl,rfl⟩⟩:=hp
    ·push_cast -dsimp [hre2,hre]
     refine Jx [7] [] (UU (G:=G0) { w with fs:=zR w.fs s } ⟨n,s.ino,false,[]⟩ (qo 6 (zp pl) c') (zp pl).length c' (zC zq) hk hw.kept hh) rfl (by decide) (by decide) (by simp) (by push_cast -dsimp) (by push_cast -dsimp [hre2]) (fun r2 bx' m hp=>?_)
     obtain ⟨rfl,c3,Ls,hLs,k1,k2,rfl,rfl⟩:=hp
     rcases hLs with rfl | ⟨X,rfl,hX⟩ | ⟨X,Y,rfl,hX,hY⟩
     ·push_cast -dsimp [hre2,hre4]
      exact ⟨[(11,92,4,zE (qu ⟨n,s.ino,false,[]⟩ w.kept),c3),(7,75,6,zp pl,c')],[],jl (zw rfl (Nat.lt_of_lt_of_le hkp k1) k1 k2 zW zr) (zw rfl (by omega) g1 g2 zS zq) (show (11:Nat)≠7 by decide),rfl,rfl,by push_cast -dsimp [zb,za,CLe,zd,e,false_and,if_false]⟩
     ·have hXr:∀ fp fo,C.reL fp fo X=X:=fun fp fo=>zD hX
      push_cast -dsimp [hre2,hre4,hXr]
      exact ⟨[(12,92,4,zE (qu ⟨n,s.ino,false,[]⟩ w.kept),c3),(7,75,6,zp pl,c')],[],jl (zw rfl (Nat.lt_of_lt_of_le hkp k1) k1 k2 zW zr) (zw rfl (by omega) g1 g2 zS zq) (show (12:Nat)≠7 by decide),rfl,rfl,by push_cast -dsimp [zb,za,CLe,zd,e,false_and,if_false]⟩
     ·have hXr:∀ fp fo,C.reL fp fo X=X:=fun fp fo=>zD hX
      have hYr:∀ fp fo,C.reL fp fo Y=Y:=fun fp fo=>zD hY
      push_cast -dsimp [hre2,hre4,hXr,hYr]
      exact ⟨[(13,92,4,zE (qu ⟨n,s.ino,false,[]⟩ w.kept),c3),(7,75,6,zp pl,c')],[],jl (zw rfl (Nat.lt_of_lt_of_le hkp k1) k1 k2 zW zr) (zw rfl (by omega) g1 g2 zS zq) (show (13:Nat)≠7 by decide),rfl,rfl,by push_cast -dsimp [zb,za,CLe,zd,e,false_and,if_false]⟩
    ·have hra:∀ fp fo,C.reL fp fo (List.replicate (c*6) .any)=List.replicate (c*6) .any:=fun fp fo=>zD (by simp[List.all_replicate,C.stayB])
     push_cast -dsimp [hre2,hre,hra]
     refine Jx [8] [] (UU (G:=G0) { w with fs:=zR w.fs s } ⟨n,s.ino,false,[]⟩ (qo 6 (zp pl) c') (zp pl).length c' (zC zq) hk hw.kept hh) rfl (by decide) (by decide) (by simp) (by push_cast -dsimp) (by push_cast -dsimp [hre2,hra]) (fun r2 bx' m hp=>?_)
     obtain ⟨rfl,c3,Ls,hLs,k1,k2,rfl,rfl⟩:=hp
     rcases hLs with rfl | ⟨X,rfl,hX⟩ | ⟨X,Y,rfl,hX,hY⟩
     ·push_cast -dsimp [hre2,hre4,hra]
      exact ⟨[(12,92,4,zE (qu ⟨n,s.ino,false,[]⟩ w.kept),c3),(8,75,6,zp pl,c')],[],jl (zw rfl (Nat.lt_of_lt_of_le hkp k1) k1 k2 zW zr) (zw rfl (by omega) g1 g2 zS zq) (show (12:Nat)≠8 by decide),rfl,rfl,by push_cast -dsimp [zb,za,CLe,zd,e,false_and,if_false]⟩
     ·have hXr:∀ fp fo,C.reL fp fo X=X:=fun fp fo=>zD hX
      push_cast -dsimp [hre2,hre4,hra,hXr]
      exact ⟨[(13,92,4,zE (qu ⟨n,s.ino,false,[]⟩ w.kept),c3),(8,75,6,zp pl,c')],[],jl (zw rfl (Nat.lt_of_lt_of_le hkp k1) k1 k2 zW zr) (zw rfl (by omega) g1 g2 zS zq) (show (13:Nat)≠8 by decide),rfl,rfl,by push_cast -dsimp [zb,za,CLe,zd,e,false_and,if_false]⟩
     ·have hXr:∀ fp fo,C.reL fp fo X=X:=fun fp fo=>zD hX
      have hYr:∀ fp fo,C.reL fp fo Y=Y:=fun fp fo=>zD hY
      push_cast -dsimp [hre2,hre4,hra,hXr,hYr]
      exact ⟨[(14,92,4,zE (qu ⟨n,s.ino,false,[]⟩ w.kept),c3),(8,75,6,zp pl,c')],[],jl (zw rfl (Nat.lt_of_lt_of_le hkp k1) k1 k2 zW zr) (zw rfl (by omega) g1 g2 zS zq) (show (14:Nat)≠8 by decide),rfl,rfl,by push_cast -dsimp [zb,za,CLe,zd,e,false_and,if_false]⟩
   ·have hpe:w.pool = []:=by simpa using hnil
    have hr0:r=0:=by rw[hpe]at hrl;exact Nat.le_zero.1 hrl
    subst hr0
    have hq:zp pl = [[.sc (.int .i64 s.ino),.sc (.int .i64 (zg s.ino w.fs.xs).kind),.sc (.int .i64 0),.str (zg s.ino w.fs.xs).data,.sc (.int .i64 0),.sl 2 (zG (zg s.ino w.fs.xs).es)]]:=by rw[hpc,hpe];rfl
    push_cast -dsimp
    refine Jx [] [0] (vU (e:=75) [.sc (.int .i64 s.ino),.sc (.int .i64 (zg s.ino w.fs.xs).kind),.sc (.int .i64 0),.str (zg s.ino w.fs.xs).data,.sc (.int .i64 0),.sl 2 (zG (zg s.ino w.fs.xs).es)] rfl rfl) rfl (by decide) (by decide) (by simp) (by push_cast -dsimp) (by push_cast -dsimp) (fun r1 bx' m hp=>?_)
    have hp:m=0/\∃ c,(zp pl).length<=c/\c<=9223372036854775807/\r1 = .bs 0 0 6 (zp pl).length c/\bx' = [qo 6 (zp pl) c]:=by rw[hq];exact hp
    obtain ⟨rfl,c',g1,g2,rfl,rfl⟩:=hp
    push_cast -dsimp [hre2]
    refine Jx [6] [] (UU (G:=G0) { w with fs:=zR w.fs s } ⟨n,s.ino,false,[]⟩ (qo 6 (zp pl) c') (zp pl).length c' (zC zq) hk hw.kept hh) rfl (by decide) (by decide) (by simp) (by push_cast -dsimp) (by push_cast -dsimp [hre2]) (fun r2 bx' m hp=>?_)
    obtain ⟨rfl,c3,Ls,hLs,k1,k2,rfl,rfl⟩:=hp
    rcases hLs with rfl | ⟨X,rfl,hX⟩ | ⟨X,Y,rfl,hX,hY⟩
    ·push_cast -dsimp [hre2,hre4]
     exact ⟨[(10,92,4,zE (qu ⟨n,s.ino,false,[]⟩ w.kept),c3),(6,75,6,zp pl,c')],[],jl (zw rfl (Nat.lt_of_lt_of_le hkp k1) k1 k2 zW zr) (zw rfl (by omega) g1 g2 zS zq) (show (10:Nat)≠6 by decide),rfl,rfl,by push_cast -dsimp [zb,za,CLe,zd,e,false_and,if_false]⟩
    ·have hXr:∀ fp fo,C.reL fp fo X=X:=fun fp fo=>zD hX
     push_cast -dsimp [hre2,hre4,hXr]
     exact ⟨[(11,92,4,zE (qu ⟨n,s.ino,false,[]⟩ w.kept),c3),(6,75,6,zp pl,c')],[],jl (zw rfl (Nat.lt_of_lt_of_le hkp k1) k1 k2 zW zr) (zw rfl (by omega) g1 g2 zS zq) (show (11:Nat)≠6 by decide),rfl,rfl,by push_cast -dsimp [zb,za,CLe,zd,e,false_and,if_false]⟩
    ·have hXr:∀ fp fo,C.reL fp fo X=X:=fun fp fo=>zD hX
     have hYr:∀ fp fo,C.reL fp fo Y=Y:=fun fp fo=>zD hY
     push_cast -dsimp [hre2,hre4,hXr,hYr]
     exact ⟨[(12,92,4,zE (qu ⟨n,s.ino,false,[]⟩ w.kept),c3),(6,75,6,zp pl,c')],[],jl (zw rfl (Nat.lt_of_lt_of_le hkp k1) k1 k2 zW zr) (zw rfl (by omega) g1 g2 zS zq) (show (12:Nat)≠6 by decide),rfl,rfl,by push_cast -dsimp [zb,za,CLe,zd,e,false_and,if_false]⟩
   ·have hpe:w.pool = []:=by simpa using hnil
    have hr0:r=0:=by rw[hpe]at hrl;exact Nat.le_zero.1 hrl
    subst hr0
    have hq:zp pl = [[.sc (.int .i64 s.ino),.sc (.int .i64 (zg s.ino w.fs.xs).kind),.sc (.int .i64 0),.str (zg s.ino w.fs.xs).data,.sc (.int .i64 0),.sl 2 (zG (zg s.ino w.fs.xs).es)]]:=by rw[hpc,hpe];rfl
    push_cast -dsimp
    refine Jx [6] [0] (Vz (e:=75) [] [.sc (.int .i64 s.ino),.sc (.int .i64 (zg s.ino w.fs.xs).kind),.sc (.int .i64 0),.str (zg s.ino w.fs.xs).data,.sc (.int .i64 0),.sl 2 (zG (zg s.ino w.fs.xs).es)] 0 0 (fun r hr=>by cases hr) rfl (fun r hr=>by cases hr) rfl (by simp) (by simp) (by simp) (by simp)) rfl (by decide) (by decide) (by simp) (by push_cast -dsimp) (by push_cast -dsimp [qo]) (fun r1 bx' m hp=>?_)
    have hp:zoF 6 (0*6) (zp pl) r1 bx' m:=by rw[hq];exact hp
    obtain ⟨rfl,c',g1,g2,⟨rfl,rfl⟩ | ⟨rfl,rfl⟩⟩:=hp
    ·push_cast -dsimp [hre2]
     refine Jx [6] [] (UU (G:=G0) { w with fs:=zR w.fs s } ⟨n,s.ino,false,[]⟩ (qo 6 (zp pl) c') (zp pl).length c' (zC zq) hk hw.kept hh) rfl (by decide) (by decide) (by simp) (by push_cast -dsimp) (by push_cast -dsimp [hre2]) (fun r2 bx' m hp=>?_)
     obtain ⟨rfl,c3,Ls,hLs,k1,k2,rfl,rfl⟩:=hp
     rcases hLs with rfl | ⟨X,rfl,hX⟩ | ⟨X,Y,rfl,hX,hY⟩
     ·push_cast -dsimp [hre2,hre4]
      exact ⟨[(10,92,4,zE (qu ⟨n,s.ino,false,[]⟩ w.kept),c3),(6,75,6,zp pl,c')],[],jl (zw rfl (Nat.lt_of_lt_of_le hkp k1) k1 k2 zW zr) (zw rfl (by omega) g1 g2 zS zq) (show (10:Nat)≠6 by decide),rfl,rfl,by push_cast -dsimp [zb,za,CLe,zd,e,false_and,if_false]⟩
     ·have hXr:∀ fp fo,C.reL fp fo X=X:=fun fp fo=>zD hX
      push_cast -dsimp [hre2,hre4,hXr]
      exact ⟨[(11,92,4,zE (qu ⟨n,s.ino,false,[]⟩ w.kept),c3),(6,75,6,zp pl,c')],[],jl (zw rfl (Nat.lt_of_lt_of_le hkp k1) k1 k2 zW zr) (zw rfl (by omega) g1 g2 zS zq) (show (11:Nat)≠6 by decide),rfl,rfl,by push_cast -dsimp [zb,za,CLe,zd,e,false_and,if_false]⟩
     ·have hXr:∀ fp fo,C.reL fp fo X=X:=fun fp fo=>zD hX
      have hYr:∀ fp fo,C.reL fp fo Y=Y:=fun fp fo=>zD hY
      push_cast -dsimp [hre2,hre4,hXr,hYr]
      exact ⟨[(12,92,4,zE (qu ⟨n,s.ino,false,[]⟩ w.kept),c3),(6,75,6,zp pl,c')],[],jl (zw rfl (Nat.lt_of_lt_of_le hkp k1) k1 k2 zW zr) (zw rfl (by omega) g1 g2 zS zq) (show (12:Nat)≠6 by decide),rfl,rfl,by push_cast -dsimp [zb,za,CLe,zd,e,false_and,if_false]⟩
    ·push_cast -dsimp [hre2]
     refine Jx [7] [] (UU (G:=G0) { w with fs:=zR w.fs s } ⟨n,s.ino,false,[]⟩ (qo 6 (zp pl) c') (zp pl).length c' (zC zq) hk hw.kept hh) rfl (by decide) (by decide) (by simp) (by push_cast -dsimp) (by push_cast -dsimp [hre2]) (fun r2 bx' m hp=>?_)
     obtain ⟨rfl,c3,Ls,hLs,k1,k2,rfl,rfl⟩:=hp
     rcases hLs with rfl | ⟨X,rfl,hX⟩ | ⟨X,Y,rfl,hX,hY⟩
     ·push_cast -dsimp [hre2,hre4]
      exact ⟨[(11,92,4,zE (qu ⟨n,s.ino,false,[]⟩ w.kept),c3),(7,75,6,zp pl,c')],[],jl (zw rfl (Nat.lt_of_lt_of_le hkp k1) k1 k2 zW zr) (zw rfl (by omega) g1 g2 zS zq) (show (11:Nat)≠7 by decide),rfl,rfl,by push_cast -dsimp [zb,za,CLe,zd,e,false_and,if_false]⟩
     ·have hXr:∀ fp fo,C.reL fp fo X=X:=fun fp fo=>zD hX
      push_cast -dsimp [hre2,hre4,hXr]
      exact ⟨[(12,92,4,zE (qu ⟨n,s.ino,false,[]⟩ w.kept),c3),(7,75,6,zp pl,c')],[],jl (zw rfl (Nat.lt_of_lt_of_le hkp k1) k1 k2 zW zr) (zw rfl (by omega) g1 g2 zS zq) (show (12:Nat)≠7 by decide),rfl,rfl,by push_cast -dsimp [zb,za,CLe,zd,e,false_and,if_false]⟩
     ·have hXr:∀ fp fo,C.reL fp fo X=X:=fun fp fo=>zD hX
      have hYr:∀ fp fo,C.reL fp fo Y=Y:=fun fp fo=>zD hY
      push_cast -dsimp [hre2,hre4,hXr,hYr]
      exact ⟨[(13,92,4,zE (qu ⟨n,s.ino,false,[]⟩ w.kept),c3),(7,75,6,zp pl,c')],[],jl (zw rfl (Nat.lt_of_lt_of_le hkp k1) k1 k2 zW zr) (zw rfl (by omega) g1 g2 zS zq) (show (13:Nat)≠7 by decide),rfl,rfl,by push_cast -dsimp [zb,za,CLe,zd,e,false_and,if_false]⟩
  ·have hz2:¬(zg s.ino w.fs.xs).links-1=0:=by omega
   rw[if_neg hz2,hino]at hg2
   have e:JM w n s=({ w with fs:=zR w.fs s,kept:=qu ⟨n,s.ino,false,[]⟩ w.kept },0):=by unfold JM;rw[hh,if_neg hz];rfl
   have hwi:=NB (G:=G0) { w with fs:=zR w.fs s } ⟨n,s.ino,false,[]⟩ hk hw.kept hh
   refine Fun.of (fun i=>if i=10 then kN [(0,.pure),(1,.pure),(2,.pure),(4,.pure),(5,.pure),(6,.pure),(3,.flt [3,4,5]),(7,.bar),(8,.pure),(9,.pure),(10,.bar)] else []) Tryz.func146 rfl (zi rfl) (by kernel_rfl) ?_;dsimp only[Tryz.f146]
   push_cast -dsimp
   refine cl (h1) ?_;push_cast -dsimp
   refine cl (hg) ?_;push_cast -dsimp
   refine cl (hu) ?_;push_cast -dsimp
   refine cl (hg2) ?_;push_cast -dsimp
   refine cl (hwi) ?_;push_cast -dsimp
   exact ⟨[],rfl,rfl,by push_cast -dsimp [zb,za,CLe,zd,e]⟩
end
section
open CA CB
open Go.RowKit
theorem Mn (w:qv) (hf:FsI w.fs) (hs:FsS w.fs) (hk:w.kept.length<=90000) (hR:qF jD zN.slot w.kept) (n i:Int):Fun Tryz.prog G0 168 [jv w,.sc (.int .i64 n),.sc (.int .i64 i)] (.tup [jv (zV w n i).1,.sc (.int .i64 (zV w n i).2)]) 0:=by
 have hlen:=hs.len
 have h1:=Nt (G:=G0) w n (by omega) hR
 have hg:=jP (G:=G0) w.fs i (by omega) hf.rises
 cases hh:UV n w.kept with
 | true =>
  have e:zV w n i=(w,13):=by unfold zV;rw[hh];rfl
  rw[hh]at h1
  refine Fun.of (fun _=>[]) Tryz.func168 rfl (zi rfl) (by kernel_rfl) ?_;dsimp only[Tryz.f168]
  push_cast -dsimp
  refine cl (h1) ?_;push_cast -dsimp
  exact ⟨[],rfl,rfl,by push_cast -dsimp [zb,za,CLe,zd,e]⟩
 | false =>
  have e:zV w n i=({ w with kept:=qu ⟨n,i,true,(zg i w.fs.xs).data⟩ w.kept },0):=by unfold zV;rw[hh];rfl
  have hw:=NB (G:=G0) w ⟨n,i,true,(zg i w.fs.xs).data⟩ hk hR hh
  rw[hh]at h1
  refine Fun.of (fun _=>[]) Tryz.func168 rfl (zi rfl) (by kernel_rfl) ?_;dsimp only[Tryz.f168]
  push_cast -dsimp
  refine cl (h1) ?_;push_cast -dsimp
  refine cl (hg) ?_;push_cast -dsimp
  refine cl (hw) ?_;push_cast -dsimp
  exact ⟨[],rfl,rfl,by push_cast -dsimp [zb,za,CLe,zd,e]⟩
end
section
open CA CB
open Go.RowKit
theorem znu {f:FsV} (hf:FsI f) (p:List UInt8):(atV f p).1.ino≠0->zF (atV f p).1.ino f.xs=true:=by
 unfold atV
 split
 ·exact zdO hf (zJ p) ⟨0,[],1⟩ fun _=>hf.root
 ·intro h;exact absurd rfl h
theorem zb7 {f:FsV} (hf:FsI f) (p:List UInt8):zF (atV f p).1.ino f.xs = !decide ((atV f p).1.ino=0):=by
 by_cases h:(atV f p).1.ino=0
 ·rw[decide_eq_true h]
  cases hh:zF (atV f p).1.ino f.xs with
  | false=>rfl
  | true=>exact absurd h (zb1 hf hh)
 ·rw[znu hf p h,decide_eq_false h];rfl
theorem Ga (f:FsV) (hf:FsI f) (hs:FsS f) (p:List UInt8) (hp:p.length<=100000):Fun Tryz.prog G0 165 [.agg (fsC f),.str p] (.tup [.agg (YB (isV f p false).1),.sc (.int .i64 (isV f p false).2.2)]) 0:=by
 have h1:=y9 f hf hs p hp
 have hi:=zb7 hf p
 have e1:(isV f p false).1=(atV f p).1:=rfl
 by_cases h0:(atV f p).2=0
 ·have h0':=eq_true h0
  by_cases hz:(atV f p).1.ino=0
  ·have hz':=eq_true hz
   rw[decide_eq_true hz]at hi
   have e3:(isV f p false).2.2=0:=by unfold isV;simp[h0,hi]
   refine Fun.of (fun _=>[]) Tryz.func165 rfl (zi rfl) (by kernel_rfl) ?_;dsimp only[Tryz.f165]
   push_cast -dsimp
   refine cl (h1) ?_;push_cast -dsimp [h0',hz']
   exact ⟨[],rfl,rfl,by push_cast -dsimp [zb,za,CLe,zd,e1,e3]⟩
  ·have hz':=eq_false hz
   rw[decide_eq_false hz]at hi
   have e3:(isV f p false).2.2=2:=by unfold isV;simp[h0,hi]
   refine Fun.of (fun _=>[]) Tryz.func165 rfl (zi rfl) (by kernel_rfl) ?_;dsimp only[Tryz.f165]
   push_cast -dsimp
   refine cl (h1) ?_;push_cast -dsimp [h0',hz']
   exact ⟨[],rfl,rfl,by push_cast -dsimp [zb,za,CLe,zd,e1,e3]⟩
 ·have h0':=eq_false h0
  have e3:(isV f p false).2.2=(atV f p).2:=by unfold isV;simp[h0]
  refine Fun.of (fun _=>[]) Tryz.func165 rfl (zi rfl) (by kernel_rfl) ?_;dsimp only[Tryz.f165]
  push_cast -dsimp
  refine cl (h1) ?_;push_cast -dsimp [h0']
  exact ⟨[],rfl,rfl,by push_cast -dsimp [zb,za,CLe,zd,e1,e3]⟩
theorem uX {f:FsV} (hf:FsI f) {p:List UInt8} (h:(isV f p true).2.2=0):(isV f p true).2.1.kind=1∨(isV f p true).2.1.kind=2∨(isV f p true).2.1.kind=3:=by
 have hz:=Zz h
 have hh:zF (atV f p).1.ino f.xs=true:=by
  unfold isV at h
  simp only[hz]at h
  cases hq:zF (atV f p).1.ino f.xs with
  | true=>rfl
  | false=>rw[hq]at h;simp at h
 exact hf.kind _ (zk hh).2.1
theorem Hk (f:FsV) (hf:FsI f) (hs:FsS f) (p:List UInt8) (hp:p.length<=100000):Fun Tryz.prog G0 167 [.agg (fsC f),.str p] (.tup [.agg (JU (zM f p).1),.sc (.int .i64 (zM f p).2)]) 0:=by
 have h1:=Zc f hf hs p hp
 have e1:(zM f p).1=(isV f p true).2.1:=rfl
 have e2:(zM f p).2=if (isV f p true).2.2≠0 then (isV f p true).2.2 else if (isV f p true).2.1.kind=2 then 4 else if (isV f p true).2.1.kind=3 then 9 else 0:=rfl
 have hkt:=fun h=>uX hf (p:=p) h
 generalize isV f p true=r at h1 e1 e2 hkt
 obtain ⟨s,x,w⟩:=r
 simp only at h1 e1 e2 hkt
 by_cases h0:w=0
 ·have h0':=eq_true h0
  by_cases k2:x.kind=2
  ·have k2':=eq_true k2
   have e3:(zM f p).2=4:=by rw[e2];simp[h0,k2]
   refine Fun.of (fun _=>[]) Tryz.func167 rfl (zi rfl) (by kernel_rfl) ?_;dsimp only[Tryz.f167]
   push_cast -dsimp
   refine cl (h1) ?_;push_cast -dsimp [h0',k2']
   exact ⟨[],rfl,rfl,by push_cast -dsimp [zb,za,CLe,zd,e1,e3]⟩
  ·have k2':=eq_false k2
   by_cases k1:x.kind=1
   ·have k1':=eq_true k1
    have e3:(zM f p).2=0:=by rw[e2];simp[h0,k1]
    refine Fun.of (fun _=>[]) Tryz.func167 rfl (zi rfl) (by kernel_rfl) ?_;dsimp only[Tryz.f167]
    push_cast -dsimp
    refine cl (h1) ?_;push_cast -dsimp [h0',k2',k1']
    exact ⟨[],rfl,rfl,by push_cast -dsimp [zb,za,CLe,zd,e1,e3]⟩
   ·have k1':=eq_false k1
    have k3:x.kind=3:=by rcases hkt h0 with h | h | h;exact absurd h k1;exact absurd h k2;exact h
    have e3:(zM f p).2=9:=by rw[e2];simp[h0,k3]
    refine Fun.of (fun _=>[]) Tryz.func167 rfl (zi rfl) (by kernel_rfl) ?_;dsimp only[Tryz.f167]
    push_cast -dsimp
    refine cl (h1) ?_;push_cast -dsimp [h0',k2',k1']
    exact ⟨[],rfl,rfl,by push_cast -dsimp [zb,za,CLe,zd,e1,e3]⟩
 ·have h0':=eq_false h0
  have e3:(zM f p).2=w:=by rw[e2];simp[h0]
  refine Fun.of (fun _=>[]) Tryz.func167 rfl (zi rfl) (by kernel_rfl) ?_;dsimp only[Tryz.f167]
  push_cast -dsimp
  refine cl (h1) ?_;push_cast -dsimp [h0']
  exact ⟨[],rfl,rfl,by push_cast -dsimp [zb,za,CLe,zd,e1,e3]⟩
structure Vx (w:qv):Prop where
 fs:FsS w.fs
 next:zju w.fs
 kept:w.kept.length<=10000
 pool:w.pool.length<=10000
theorem H3 (w:qv) (hw:Xc w) (hs:Vx w) (p:List UInt8) (hp:p.length<=100000) (hpl:zO p=true) (k:Int) (t:List UInt8) (ht:t.length<=10000):Fun Tryz.prog G0 137 [jv w,.str p,.sc (.int .i64 k),.str t] (.tup [jv (Je w p k t).1,.sc (.int .i64 (Je w p k t).2)]) 0:=by
 have h1:=Ga w.fs hw.fs hs.fs p hp
 by_cases h0:(isV w.fs p false).2.2=0
 ·have h0':=eq_true h0
  have hfr:=JF hw.fs hpl h0
  have hln:=y7 hw.fs hpl (Zz h0)
  have hln:(isV w.fs p false).1.name.length<=300:=hln
  have hc:=zaR w.fs hw.fs hs.fs hs.next (isV w.fs p false).1 hfr (by omega) k t (by omega)
  have e:Je w p k t=({ w with fs:=(Zj w.fs (isV w.fs p false).1 k t).1 },(Zj w.fs (isV w.fs p false).1 k t).2):=by unfold Je;rw[if_neg (by simp[h0])]
  refine Fun.of (fun _=>[]) Tryz.func137 rfl (zi rfl) (by kernel_rfl) ?_;dsimp only[Tryz.f137]
  push_cast -dsimp
  refine cl (h1) ?_;push_cast -dsimp [h0']
  refine cl (hc) ?_;push_cast -dsimp
  exact ⟨[],rfl,rfl,by push_cast -dsimp [zb,za,CLe,zd,e]⟩
 ·have h0':=eq_false h0
  have e:Je w p k t=(w,(isV w.fs p false).2.2):=by unfold Je;rw[if_pos h0]
  refine Fun.of (fun _=>[]) Tryz.func137 rfl (zi rfl) (by kernel_rfl) ?_;dsimp only[Tryz.f137]
  push_cast -dsimp
  refine cl (h1) ?_;push_cast -dsimp [h0']
  exact ⟨[],rfl,rfl,by push_cast -dsimp [zb,za,CLe,zd,e]⟩
end
section
open CA CB
open Go.RowKit
theorem Q5 {w:qv} (hw:Xc w) (hs:Vx w) {p:List UInt8} (hp:zO p=true) (h:(zM w.fs p).2=0):(zM w.fs p).1.data.length<=10000:=by
 obtain ⟨h1,_,h3⟩:=Qj hw.fs hp h
 rw[h3]
 exact (hs.fs.node _ (zk h1).2.1).2.1
theorem zaS (w:qv) (hw:Xc w) (hs:Vx w) (o:OpV) (ho:short o) (pa:zO o.a=true) (pb:zO o.b=true):Fun Tryz.prog G0 138 [jv w,.agg (opL o)] (.tup [jv (j4 w o).1,.sc (.int .i64 (j4 w o).2)]) 0:=by
 have h1:=Hk w.fs hw.fs hs.fs o.a ho.1
 unfold opL
 by_cases h0:(zM w.fs o.a).2=0
 ·have h0':=eq_true h0
  have hm:=H3 w hw hs o.b ho.2.1 pb 1 (zM w.fs o.a).1.data (Q5 hw hs pa h0)
  have e:j4 w o=Je w o.b 1 (zM w.fs o.a).1.data:=by unfold j4;rw[if_neg (by simp[h0])]
  refine Fun.of (fun _=>[]) Tryz.func138 rfl (zi rfl) (by kernel_rfl) ?_;dsimp only[Tryz.f138]
  push_cast -dsimp
  refine cl (h1) ?_;push_cast -dsimp [h0']
  refine cl (hm) ?_;push_cast -dsimp
  exact ⟨[],rfl,rfl,by push_cast -dsimp [zb,za,CLe,zd,e]⟩
 ·have h0':=eq_false h0
  have e:j4 w o=(w,(zM w.fs o.a).2):=by unfold j4;rw[if_pos h0]
  refine Fun.of (fun _=>[]) Tryz.func138 rfl (zi rfl) (by kernel_rfl) ?_;dsimp only[Tryz.f138]
  push_cast -dsimp
  refine cl (h1) ?_;push_cast -dsimp [h0']
  exact ⟨[],rfl,rfl,by push_cast -dsimp [zb,za,CLe,zd,e]⟩
theorem zby (w:qv) (hw:Xc w) (hs:Vx w) (o:OpV) (ho:short o) (pa:zO o.a=true) (pb:zO o.b=true):Fun Tryz.prog G0 141 [jv w,.agg (opL o)] (.tup [jv (qJ w o).1,.sc (.int .i64 (qJ w o).2)]) 0:=by
 have h1:=Zc w.fs hw.fs hs.fs o.a ho.1
 have h2:=Ga w.fs hw.fs hs.fs o.b ho.2.1
 unfold opL
 by_cases h0:(isV w.fs o.a true).2.2=0
 ·have h0':=eq_true h0
  obtain ⟨t1,t2⟩:=jK hw.fs pa h0
  have hi:=qg.ino hw.fs t1
  have hino:(isV w.fs o.a true).2.1.ino=(isV w.fs o.a true).1.ino:=by rw[t2,(zk hi).2.2]
  by_cases hk:(isV w.fs o.a true).2.1.kind=2
  ·have hk':=eq_true hk
   have e:qJ w o=(w,11):=by unfold qJ;simp[h0,hk]
   refine Fun.of (fun _=>[]) Tryz.func141 rfl (zi rfl) (by kernel_rfl) ?_;dsimp only[Tryz.f141]
   push_cast -dsimp
   refine cl (h1) ?_;push_cast -dsimp [h0',hk']
   exact ⟨[],rfl,rfl,by push_cast -dsimp [zb,za,CLe,zd,e]⟩
  ·have hk':=eq_false hk
   by_cases hb:(isV w.fs o.b false).2.2=0
   ·have hb':=eq_true hb
    have hfree:=JF hw.fs pb hb
    have hne:(isV w.fs o.b false).1.dir≠(isV w.fs o.a true).2.1.ino:=fun e=>by
     rw[hino]at e
     have:=hfree.kind
     rw[e,←t2]at this
     exact hk this
    have hn:=zic w.fs hw.fs hs.fs (isV w.fs o.b false).1 hfree (isV w.fs o.a true).2.1.ino (by rw[hino];exact hi) hne
    have e:qJ w o=({ w with fs:=Uw w.fs (isV w.fs o.b false).1 (isV w.fs o.a true).2.1.ino },0):=by unfold qJ;simp[h0,hk,hb]
    refine Fun.of (fun _=>[]) Tryz.func141 rfl (zi rfl) (by kernel_rfl) ?_;dsimp only[Tryz.f141]
    push_cast -dsimp
    refine cl (h1) ?_;push_cast -dsimp [h0',hk']
    refine cl (h2) ?_;push_cast -dsimp [hb']
    refine cl (hn) ?_;push_cast -dsimp
    exact ⟨[],rfl,rfl,by push_cast -dsimp [zb,za,CLe,zd,e,hb]⟩
   ·have hb':=eq_false hb
    have e:qJ w o=(w,(isV w.fs o.b false).2.2):=by unfold qJ;simp[h0,hk,hb]
    refine Fun.of (fun _=>[]) Tryz.func141 rfl (zi rfl) (by kernel_rfl) ?_;dsimp only[Tryz.f141]
    push_cast -dsimp
    refine cl (h1) ?_;push_cast -dsimp [h0',hk']
    refine cl (h2) ?_;push_cast -dsimp [hb']
    exact ⟨[],rfl,rfl,by push_cast -dsimp [zb,za,CLe,zd,e]⟩
 ·have h0':=eq_false h0
  have e:qJ w o=(w,(isV w.fs o.a true).2.2):=by unfold qJ;simp[h0]
  refine Fun.of (fun _=>[]) Tryz.func141 rfl (zi rfl) (by kernel_rfl) ?_;dsimp only[Tryz.f141]
  push_cast -dsimp
  refine cl (h1) ?_;push_cast -dsimp [h0']
  exact ⟨[],rfl,rfl,by push_cast -dsimp [zb,za,CLe,zd,e]⟩
theorem G7 {f:FsV} (hf:FsI f) {p:List UInt8} (h:(isV f p false).2.2=0):(isV f p false).1.ino=0:=by
 have hz:=Zz h
 have hi:=zb7 hf p
 unfold isV at h ⊢
 simp only[hz]at h ⊢
 by_cases h0:(atV f p).1.ino=0
 ·exact h0
 ·rw[decide_eq_false h0]at hi
  rw[hi]at h
  simp at h
theorem zff (w:qv) (hw:Xc w) (hs:Vx w) (o:OpV) (ho:short o) (pa:zO o.a=true) (pb:zO o.b=true):Fun Tryz.prog G0 142 [jv w,.agg (opL o)] (.tup [jv (Jf w o).1,.sc (.int .i64 (Jf w o).2)]) 0:=by
 have h1:=Zc w.fs hw.fs hs.fs o.a ho.1
 have h2:=Ga w.fs hw.fs hs.fs o.b ho.2.1
 unfold opL
 by_cases h0:(isV w.fs o.a true).2.2=0
 ·have h0':=eq_true h0
  obtain ⟨t1,t2⟩:=jK hw.fs pa h0
  by_cases hb:(isV w.fs o.b false).2.2=0
  ·have hb':=eq_true hb
   have hfree:=JF hw.fs pb hb
   have hn:=zgz w.fs hw.fs hs.fs (isV w.fs o.a true).1 (isV w.fs o.b false).1 t1 hfree (G7 hw.fs hb)
   have e:Jf w o=({ w with fs:=QD w.fs (isV w.fs o.a true).1 (isV w.fs o.b false).1 },0):=by unfold Jf;simp[h0,hb]
   refine Fun.of (fun _=>[]) Tryz.func142 rfl (zi rfl) (by kernel_rfl) ?_;dsimp only[Tryz.f142]
   push_cast -dsimp
   refine cl (h1) ?_;push_cast -dsimp [h0']
   refine cl (h2) ?_;push_cast -dsimp [hb']
   refine cl (hn) ?_;push_cast -dsimp
   exact ⟨[],rfl,rfl,by push_cast -dsimp [zb,za,CLe,zd,e,hb]⟩
  ·have hb':=eq_false hb
   have e:Jf w o=(w,(isV w.fs o.b false).2.2):=by unfold Jf;simp[h0,hb]
   refine Fun.of (fun _=>[]) Tryz.func142 rfl (zi rfl) (by kernel_rfl) ?_;dsimp only[Tryz.f142]
   push_cast -dsimp
   refine cl (h1) ?_;push_cast -dsimp [h0']
   refine cl (h2) ?_;push_cast -dsimp [hb']
   exact ⟨[],rfl,rfl,by push_cast -dsimp [zb,za,CLe,zd,e]⟩
 ·have h0':=eq_false h0
  have e:Jf w o=(w,(isV w.fs o.a true).2.2):=by unfold Jf;simp[h0]
  refine Fun.of (fun _=>[]) Tryz.func142 rfl (zi rfl) (by kernel_rfl) ?_;dsimp only[Tryz.f142]
  push_cast -dsimp
  refine cl (h1) ?_;push_cast -dsimp [h0']
  exact ⟨[],rfl,rfl,by push_cast -dsimp [zb,za,CLe,zd,e]⟩
end
section
open CA CB
open Go.RowKit
theorem xU (w:qv) (hw:Xc w) (hs:Vx w) (o:OpV) (ho:short o) (pa:zO o.a=true) (pb:zO o.b=true):Fun Tryz.prog G0 139 [jv w,.agg (opL o)] (.tup [jv (zT w o).1,.sc (.int .i64 (zT w o).2)]) 0:=by
 have h1:=Hk w.fs hw.fs hs.fs o.a ho.1
 have h2:=Hk w.fs hw.fs hs.fs o.b ho.2.1
 have h3:=Mn w hw.fs hs.fs (by have:=hs.kept;omega) hw.kept o.slot (zM w.fs o.b).1.ino
 unfold opL
 by_cases a0:(zM w.fs o.a).2=0
 rotate_left
 ·have a0':=eq_false a0
  have e:zT w o=(w,(zM w.fs o.a).2):=by unfold zT;rw[if_pos a0]
  refine Fun.of (fun _=>[]) Tryz.func139 rfl (zi rfl) (by kernel_rfl) ?_;dsimp only[Tryz.f139]
  push_cast -dsimp
  refine cl (h1) ?_;push_cast -dsimp [a0']
  exact ⟨[],rfl,rfl,by push_cast -dsimp [zb,za,CLe,zd,e]⟩
 have a0':=eq_true a0
 have hfa:=Q5 hw hs pa a0
 by_cases b0:(zM w.fs o.b).2=0
 rotate_left
 ·have b0':=eq_false b0
  have e:zT w o=(w,(zM w.fs o.b).2):=by unfold zT;rw[if_neg (by simp[a0]),if_pos b0]
  refine Fun.of (fun _=>[]) Tryz.func139 rfl (zi rfl) (by kernel_rfl) ?_;dsimp only[Tryz.f139]
  push_cast -dsimp
  refine cl (h1) ?_;push_cast -dsimp [a0']
  refine cl (h2) ?_;push_cast -dsimp [b0']
  exact ⟨[],rfl,rfl,by push_cast -dsimp [zb,za,CLe,zd,e]⟩
 have b0':=eq_true b0
 obtain ⟨fb1,fb2,fb3⟩:=Qj hw.fs pb b0
 by_cases i0:(zM w.fs o.a).1.ino=(zM w.fs o.b).1.ino
 ·have i0':=eq_true i0
  have e:zT w o=(w,9):=by unfold zT;rw[if_neg (by simp[a0]),if_neg (by simp[b0]),if_pos i0]
  refine Fun.of (fun _=>[]) Tryz.func139 rfl (zi rfl) (by kernel_rfl) ?_;dsimp only[Tryz.f139]
  push_cast -dsimp
  refine cl (h1) ?_;push_cast -dsimp [a0']
  refine cl (h2) ?_;push_cast -dsimp [b0',i0']
  exact ⟨[],rfl,rfl,by push_cast -dsimp [zb,za,CLe,zd,e]⟩
 have i0':=eq_false i0
 cases hh:UV o.slot w.kept with
 | true =>
  have ek:zV w o.slot (zM w.fs o.b).1.ino=(w,13):=by unfold zV;rw[hh];rfl
  have e:zT w o=(w,13):=by unfold zT;rw[if_neg (by simp[a0]),if_neg (by simp[b0]),if_neg i0,ek];rfl
  rw[ek]at h3
  refine Fun.of (fun _=>[]) Tryz.func139 rfl (zi rfl) (by kernel_rfl) ?_;dsimp only[Tryz.f139]
  push_cast -dsimp
  refine cl (h1) ?_;push_cast -dsimp [a0']
  refine cl (h2) ?_;push_cast -dsimp [b0',i0']
  refine cl (h3) ?_;push_cast -dsimp
  exact ⟨[],rfl,rfl,by push_cast -dsimp [zb,za,CLe,zd,e]⟩
 | false =>
  have ek:zV w o.slot (zM w.fs o.b).1.ino=({ w with kept:=qu ⟨o.slot,(zM w.fs o.b).1.ino,true,(zg (zM w.fs o.b).1.ino w.fs.xs).data⟩ w.kept },0):=by unfold zV;rw[hh];rfl
  have h4:=yL w.fs hw.fs hs.fs (zM w.fs o.b).1.ino fb1 (zM w.fs o.a).1.data hfa
  rw[ek]at h3
  by_cases d0:(Ye w.fs (zM w.fs o.b).1.ino (zM w.fs o.a).1.data).2=0
  ·have d0':=eq_true d0
   have e:zT w o=(⟨(Ye w.fs (zM w.fs o.b).1.ino (zM w.fs o.a).1.data).1,qu ⟨o.slot,(zM w.fs o.b).1.ino,true,(zg (zM w.fs o.b).1.ino w.fs.xs).data⟩ w.kept,w.pool⟩,0):=by unfold zT;rw[if_neg (by simp[a0]),if_neg (by simp[b0]),if_neg i0,ek,if_neg (by simp),if_neg (by simp[d0])]
   refine Fun.of (fun _=>[]) Tryz.func139 rfl (zi rfl) (by kernel_rfl) ?_;dsimp only[Tryz.f139]
   push_cast -dsimp
   refine cl (h1) ?_;push_cast -dsimp [a0']
   refine cl (h2) ?_;push_cast -dsimp [b0',i0']
   refine cl (h3) ?_;push_cast -dsimp
   refine cl (h4) ?_;push_cast -dsimp [d0']
   exact ⟨[],rfl,rfl,by push_cast -dsimp [zb,za,CLe,zd,e]⟩
  ·have d0':=eq_false d0
   have e:zT w o=(w,(Ye w.fs (zM w.fs o.b).1.ino (zM w.fs o.a).1.data).2):=by unfold zT;rw[if_neg (by simp[a0]),if_neg (by simp[b0]),if_neg i0,ek,if_neg (by simp),if_pos d0]
   refine Fun.of (fun _=>[]) Tryz.func139 rfl (zi rfl) (by kernel_rfl) ?_;dsimp only[Tryz.f139]
   push_cast -dsimp
   refine cl (h1) ?_;push_cast -dsimp [a0']
   refine cl (h2) ?_;push_cast -dsimp [b0',i0']
   refine cl (h3) ?_;push_cast -dsimp
   refine cl (h4) ?_;push_cast -dsimp [d0']
   exact ⟨[],rfl,rfl,by push_cast -dsimp [zb,za,CLe,zd,e]⟩
theorem zaW (w:qv) (hw:Xc w) (hs:Vx w) (o:OpV) (s:qM) (hsp:qg w.fs s) (he:(zg s.ino w.fs.xs).es = []):Vd Tryz.prog G0 145 [.agg (YB s),.ptr 0 0,.ptr 1 0] [kg w,opL o] 0 (.tup [jv (JM w o.slot s).1,.sc (.int .i64 (JM w o.slot s).2)]) [kg w,opL o] 0:=by
 have h:=zhn w hw hs.fs (by have:=hs.kept;omega) (by have:=hs.pool;omega) o.slot s hsp he
 unfold opL
 refine Vd.of (fun _=>[]) Tryz.func145 rfl (zi rfl) (by kernel_rfl) (zi rfl) ?_;dsimp only[Tryz.f145]
 push_cast -dsimp
 refine cl (h) ?_;push_cast -dsimp
 exact ⟨[],rfl,rfl,by push_cast -dsimp [zb,za,CLe,zd],by push_cast -dsimp [zb,za,CLe,zd]⟩
theorem zhG (w:qv) (hw:Xc w) (hs:Vx w) (o:OpV) (ho:short o) (pa:zO o.a=true):Vd Tryz.prog G0 144 [jv w,.str o.a,.clo (.func 145) [] [.ptr 0 0,.ptr 1 0]] [kg w,opL o] 0 (.tup [jv (qt w o).1,.sc (.int .i64 (qt w o).2)]) [kg w,opL o] 0:=by
 have h1:=Zc w.fs hw.fs hs.fs o.a ho.1
 by_cases h0:(isV w.fs o.a true).2.2=0
 ·have h0':=eq_true h0
  obtain ⟨t1,t2⟩:=jK hw.fs pa h0
  by_cases hes:(isV w.fs o.a true).2.1.es = []
  ·have hel:(0<(zG (isV w.fs o.a true).2.1.es).length)=False:=eq_false (by rw[hes];simp)
   have he:(zg (isV w.fs o.a true).1.ino w.fs.xs).es = []:=by rw[←t2];exact hes
   have hd:=zaW w hw hs o (isV w.fs o.a true).1 t1 he
   have e:qt w o=JM w o.slot (isV w.fs o.a true).1:=by unfold qt;simp[h0,hes]
   unfold opL at hd ⊢
   refine Vd.of (fun _=>[]) Tryz.func144 rfl (zi rfl) (by kernel_rfl) (zi rfl) ?_;dsimp only[Tryz.f144]
   push_cast -dsimp
   refine cl (h1) ?_;push_cast -dsimp [h0',hel]
   refine x4 [0,1] [] hd rfl (by decide) (by decide) (by simp) (by push_cast -dsimp) (by push_cast -dsimp) ?_
   push_cast -dsimp
   exact ⟨[],rfl,rfl,by push_cast -dsimp [zb,za,CLe,zd],by push_cast -dsimp [zb,za,CLe,zd,e]⟩
  ·have hel:(0<(zG (isV w.fs o.a true).2.1.es).length)=True:=eq_true (by rw[List.length_map];exact List.length_pos_iff.2 hes)
   have e:qt w o=(w,5):=by unfold qt;simp[h0,hes]
   unfold opL
   refine Vd.of (fun _=>[]) Tryz.func144 rfl (zi rfl) (by kernel_rfl) (zi rfl) ?_;dsimp only[Tryz.f144]
   push_cast -dsimp
   refine cl (h1) ?_;push_cast -dsimp [h0',hel]
   exact ⟨[],rfl,rfl,by push_cast -dsimp [zb,za,CLe,zd],by push_cast -dsimp [zb,za,CLe,zd,e]⟩
 ·have h0':=eq_false h0
  have e:qt w o=(w,(isV w.fs o.a true).2.2):=by unfold qt;simp[h0]
  unfold opL
  refine Vd.of (fun _=>[]) Tryz.func144 rfl (zi rfl) (by kernel_rfl) (zi rfl) ?_;dsimp only[Tryz.f144]
  push_cast -dsimp
  refine cl (h1) ?_;push_cast -dsimp [h0']
  exact ⟨[],rfl,rfl,by push_cast -dsimp [zb,za,CLe,zd],by push_cast -dsimp [zb,za,CLe,zd,e]⟩
theorem zeT (w:qv) (hw:Xc w) (hs:Vx w) (o:OpV) (ho:short o) (pa:zO o.a=true):Fun Tryz.prog G0 136 [jv w,.agg (opL o)] (.tup [jv (Je w o.a 2 []).1,.sc (.int .i64 (Je w o.a 2 []).2)]) 0:=by
 have h:=H3 w hw hs o.a ho.1 pa 2 [] (by simp)
 unfold opL
 refine Fun.of (fun _=>[]) Tryz.func136 rfl (zi rfl) (by kernel_rfl) ?_;dsimp only[Tryz.f136]
 push_cast -dsimp
 refine cl (h) ?_;push_cast -dsimp
 exact ⟨[],rfl,rfl,by push_cast -dsimp [zb,za,CLe,zd]⟩
theorem zcR (w:qv) (hw:Xc w) (hs:Vx w) (o:OpV) (ho:short o) (pa:zO o.a=true) (hd:o.d.length<=10000):Fun Tryz.prog G0 140 [jv w,.agg (opL o)] (.tup [jv (Je w o.a 3 o.d).1,.sc (.int .i64 (Je w o.a 3 o.d).2)]) 0:=by
 have h:=H3 w hw hs o.a ho.1 pa 3 o.d hd
 unfold opL
 refine Fun.of (fun _=>[]) Tryz.func140 rfl (zi rfl) (by kernel_rfl) ?_;dsimp only[Tryz.f140]
 push_cast -dsimp
 refine cl (h) ?_;push_cast -dsimp
 exact ⟨[],rfl,rfl,by push_cast -dsimp [zb,za,CLe,zd]⟩
theorem zfg (w:qv) (hw:Xc w) (hs:Vx w) (o:OpV) (ho:short o) (pa:zO o.a=true):Fun Tryz.prog G0 143 [jv w,.agg (opL o)] (.tup [jv (qt w o).1,.sc (.int .i64 (qt w o).2)]) 0:=by
 have h:=zhG w hw hs o ho pa
 unfold opL at h ⊢
 refine Fun.of (fun _=>[]) Tryz.func143 rfl (zi rfl) (by kernel_rfl) ?_;dsimp only[Tryz.f143]
 push_cast -dsimp
 refine x4 [0,1] [] h rfl (by decide) (by decide) (by simp) (by push_cast -dsimp) (by push_cast -dsimp) ?_
 push_cast -dsimp
 exact ⟨[],rfl,rfl,by push_cast -dsimp [zb,za,CLe,zd]⟩
end
section
open Go.RowKit
section
variable {G:zm}
abbrev znO:List C:=[.clo (.func 136) [] [],.clo (.func 138) [] [],.clo (.func 139) [] [],.clo (.func 140) [] [],.clo (.func 141) [] [],.clo (.func 142) [] [],.clo (.func 143) [] [],.clo (.func 147) [] [],.clo (.func 150) [] [],.clo (.func 151) [] []]
theorem J9:Fun Tryz.prog G 99 [] (.mo 0 140 (.int .i64 [1,2,3,4,5,6,7,8,9,10]) znO) 1:=by
 refine Fun.of (fun _=>[]) Tryz.func99 rfl (zi rfl) (by kernel_rfl) ?_;dsimp only[Tryz.f99]
 push_cast -dsimp [UZ,Zl,Option.map_none,List.nil_append,List.cons_append,reduceIte,Int.reduceEq]
 exact ⟨[.inl 0],rfl,rfl,by push_cast -dsimp [zb,za,CLe,zd]⟩
end
end
section
open CA CB
open Go.RowKit
theorem Fun.g0 {P:Program} {G':zm} {f:FuncId} {args:List C} {r:C} {n:Nat} (h:Fun P G0 f args r n):Fun P G' f args r n:=⟨h.1,fun R vs hg hv=>h.2 R vs (yV R) hv⟩
theorem vf (w:qv) (hw:Xc w) (hs:Vx w) (o:OpV) (ho:short o) (hd:o.d.length<=10000) (hk:o.kind<=7):Fun Tryz.prog G1 57 [jv w,.agg (opL o)] (.tup [jv (doV w o).1,.sc (.int .i64 (doV w o).2)]) 0:=by
 obtain ⟨k,s,a,b,d⟩:=o
 cases hm:Vn ⟨k,s,a,b,d⟩ with
 | false =>
  have e:doV w ⟨k,s,a,b,d⟩=(w,12):=by unfold doV;rw[hm];rfl
  have hop:=Js k s a b d ho
  rw[hm]at hop
  rw[e]
  unfold opL qD at hop
  unfold opL
  refine Fun.of (fun i=>if i=3 then [false,false,false,false,false,false,false,false,false,true] else []) Tryz.func57 rfl (zi rfl) (by kernel_rfl) ?_;dsimp only[Tryz.f57]
  push_cast -dsimp
  refine cl (hop) ?_;push_cast -dsimp
  exact ⟨[],rfl,rfl,by push_cast -dsimp [zb,za,CLe,zd]⟩
 | true =>
 have hk1:1<=k:=by
  unfold Vn at hm
  simp only[Bool.and_eq_true,decide_eq_true_eq]at hm
  exact hm.1.1.1.1.1.1
 obtain ⟨p1,p2,_⟩:=X0 hm
 have hk7:k<=7:=hk
 obtain rfl | rfl | rfl | rfl | rfl | rfl | rfl:k=1∨k=2∨k=3∨k=4∨k=5∨k=6∨k=7:=by omega
 ·have e:doV w ⟨1,s,a,b,d⟩=Je w a 2 []:=by unfold doV;rw[hm];rfl
  have hq:=(zeT w hw hs ⟨1,s,a,b,d⟩ ho p1).g0 (G':=G1)
  have hop:=Js 1 s a b d ho
  rw[hm]at hop
  rw[e]
  unfold opL qD at hop
  unfold opL at hq ⊢
  refine Fun.of (fun i=>if i=3 then [false,false,false,false,false,false,false,false,false,true] else []) Tryz.func57 rfl (zi rfl) (by kernel_rfl) ?_;dsimp only[Tryz.f57]
  push_cast -dsimp
  refine cl (hop) ?_;push_cast -dsimp
  refine cl (J9 (G:=G1)) ?_;push_cast -dsimp [vX,Zl,reduceIte,Int.reduceEq,Option.map_some,Option.map_none]
  refine cl (hq) ?_;push_cast -dsimp
  exact ⟨[],rfl,rfl,by push_cast -dsimp [zb,za,CLe,zd]⟩
 ·have e:doV w ⟨2,s,a,b,d⟩=j4 w ⟨2,s,a,b,d⟩:=by unfold doV;rw[hm];rfl
  have hq:=(zaS w hw hs ⟨2,s,a,b,d⟩ ho p1 (p2 rfl)).g0 (G':=G1)
  have hop:=Js 2 s a b d ho
  rw[hm]at hop
  rw[e]
  unfold opL qD at hop
  unfold opL at hq ⊢
  refine Fun.of (fun i=>if i=3 then [false,false,false,false,false,false,false,false,false,true] else []) Tryz.func57 rfl (zi rfl) (by kernel_rfl) ?_;dsimp only[Tryz.f57]
  push_cast -dsimp
  refine cl (hop) ?_;push_cast -dsimp
  refine cl (J9 (G:=G1)) ?_;push_cast -dsimp [vX,Zl,reduceIte,Int.reduceEq,Option.map_some,Option.map_none]
  refine cl (hq) ?_;push_cast -dsimp
  exact ⟨[],rfl,rfl,by push_cast -dsimp [zb,za,CLe,zd]⟩
 ·have e:doV w ⟨3,s,a,b,d⟩=zT w ⟨3,s,a,b,d⟩:=by unfold doV;rw[hm];rfl
  have hq:=(xU w hw hs ⟨3,s,a,b,d⟩ ho p1 (p2 rfl)).g0 (G':=G1)
  have hop:=Js 3 s a b d ho
  rw[hm]at hop
  rw[e]
  unfold opL qD at hop
  unfold opL at hq ⊢
  refine Fun.of (fun i=>if i=3 then [false,false,false,false,false,false,false,false,false,true] else []) Tryz.func57 rfl (zi rfl) (by kernel_rfl) ?_;dsimp only[Tryz.f57]
  push_cast -dsimp
  refine cl (hop) ?_;push_cast -dsimp
  refine cl (J9 (G:=G1)) ?_;push_cast -dsimp [vX,Zl,reduceIte,Int.reduceEq,Option.map_some,Option.map_none]
  refine cl (hq) ?_;push_cast -dsimp
  exact ⟨[],rfl,rfl,by push_cast -dsimp [zb,za,CLe,zd]⟩
 ·have e:doV w ⟨4,s,a,b,d⟩=Je w a 3 d:=by unfold doV;rw[hm];rfl
  have hq:=(zcR w hw hs ⟨4,s,a,b,d⟩ ho p1 hd).g0 (G':=G1)
  have hop:=Js 4 s a b d ho
  rw[hm]at hop
  rw[e]
  unfold opL qD at hop
  unfold opL at hq ⊢
  refine Fun.of (fun i=>if i=3 then [false,false,false,false,false,false,false,false,false,true] else []) Tryz.func57 rfl (zi rfl) (by kernel_rfl) ?_;dsimp only[Tryz.f57]
  push_cast -dsimp
  refine cl (hop) ?_;push_cast -dsimp
  refine cl (J9 (G:=G1)) ?_;push_cast -dsimp [vX,Zl,reduceIte,Int.reduceEq,Option.map_some,Option.map_none]
  refine cl (hq) ?_;push_cast -dsimp
  exact ⟨[],rfl,rfl,by push_cast -dsimp [zb,za,CLe,zd]⟩
 ·have e:doV w ⟨5,s,a,b,d⟩=qJ w ⟨5,s,a,b,d⟩:=by unfold doV;rw[hm];rfl
  have hq:=(zby w hw hs ⟨5,s,a,b,d⟩ ho p1 (p2 rfl)).g0 (G':=G1)
  have hop:=Js 5 s a b d ho
  rw[hm]at hop
  rw[e]
  unfold opL qD at hop
  unfold opL at hq ⊢
  refine Fun.of (fun i=>if i=3 then [false,false,false,false,false,false,false,false,false,true] else []) Tryz.func57 rfl (zi rfl) (by kernel_rfl) ?_;dsimp only[Tryz.f57]
  push_cast -dsimp
  refine cl (hop) ?_;push_cast -dsimp
  refine cl (J9 (G:=G1)) ?_;push_cast -dsimp [vX,Zl,reduceIte,Int.reduceEq,Option.map_some,Option.map_none]
  refine cl (hq) ?_;push_cast -dsimp
  exact ⟨[],rfl,rfl,by push_cast -dsimp [zb,za,CLe,zd]⟩
 ·have e:doV w ⟨6,s,a,b,d⟩=Jf w ⟨6,s,a,b,d⟩:=by unfold doV;rw[hm];rfl
  have hq:=(zff w hw hs ⟨6,s,a,b,d⟩ ho p1 (p2 rfl)).g0 (G':=G1)
  have hop:=Js 6 s a b d ho
  rw[hm]at hop
  rw[e]
  unfold opL qD at hop
  unfold opL at hq ⊢
  refine Fun.of (fun i=>if i=3 then [false,false,false,false,false,false,false,false,false,true] else []) Tryz.func57 rfl (zi rfl) (by kernel_rfl) ?_;dsimp only[Tryz.f57]
  push_cast -dsimp
  refine cl (hop) ?_;push_cast -dsimp
  refine cl (J9 (G:=G1)) ?_;push_cast -dsimp [vX,Zl,reduceIte,Int.reduceEq,Option.map_some,Option.map_none]
  refine cl (hq) ?_;push_cast -dsimp
  exact ⟨[],rfl,rfl,by push_cast -dsimp [zb,za,CLe,zd]⟩
 ·have e:doV w ⟨7,s,a,b,d⟩=qt w ⟨7,s,a,b,d⟩:=by unfold doV;rw[hm];rfl
  have hq:=(zfg w hw hs ⟨7,s,a,b,d⟩ ho p1).g0 (G':=G1)
  have hop:=Js 7 s a b d ho
  rw[hm]at hop
  rw[e]
  unfold opL qD at hop
  unfold opL at hq ⊢
  refine Fun.of (fun i=>if i=3 then [false,false,false,false,false,false,false,false,false,true] else []) Tryz.func57 rfl (zi rfl) (by kernel_rfl) ?_;dsimp only[Tryz.f57]
  push_cast -dsimp
  refine cl (hop) ?_;push_cast -dsimp
  refine cl (J9 (G:=G1)) ?_;push_cast -dsimp [vX,Zl,reduceIte,Int.reduceEq,Option.map_some,Option.map_none]
  refine cl (hq) ?_;push_cast -dsimp
  exact ⟨[],rfl,rfl,by push_cast -dsimp [zb,za,CLe,zd]⟩
end
section
open Go.RowKit
section
variable {G:zm}
theorem zie (w:qv) (hk:w.kept.length<=100000):Fun Tryz.prog G 64 [jv w] (.sc (.int .i64 (jQ w.kept))) 0:=by
 obtain ⟨f,ks,pool⟩:=w
 have hk:ks.length<=100000:=hk
 have hll:(zE ks).length=ks.length:=List.length_map ..
 rcases Nat.eq_zero_or_pos ks.length with h0 | h0
 ·have e:ks = []:=List.length_eq_zero_iff.1 h0
  subst e
  refine Fun.of (fun _=>[]) Tryz.func64 rfl (zi rfl) (by kernel_rfl) ?_;dsimp only[Tryz.f64]
  push_cast -dsimp [List.map_nil,List.length_nil]
  exact ⟨[],rfl,rfl,by push_cast -dsimp [zb,za,CLe,zd,show jQ []=0 from rfl]⟩
 ·obtain ⟨m,hm⟩:∃ m,ks.length=m+1:=⟨ks.length-1,by omega⟩
  have hz:(((zE ks).length:Int)=0)=False:=eq_false (by omega)
  have hn:((zE ks).length:Int)-1=(m:Int):=by omega
  have hat:=jj ks m (by omega)
  have hls:jQ ks=(ks[m]'(by omega)).slot:=by
   unfold jQ
   rw[List.getLast?_eq_getElem?,show ks.length-1=m by omega,List.getElem?_eq_getElem (by omega)]
  refine Fun.of (fun _=>[]) Tryz.func64 rfl (zi rfl) (by kernel_rfl) ?_;dsimp only[Tryz.f64]
  push_cast -dsimp [hz,hn,hat,Int.toNat_natCast]
  refine ⟨by omega,by omega,?_⟩
  exact ⟨[],rfl,rfl,by push_cast -dsimp [zb,za,CLe,zd,hls]⟩
theorem Z6 (o:OpV):Fun Tryz.prog G 56 [.agg (opL o)] (.sc (.bool (decide (o.kind=3∨o.kind=7)))) 0:=by
 unfold opL
 by_cases h:o.kind=3
 ·have h':=eq_true h
  refine Fun.of (fun _=>[]) Tryz.func56 rfl (zi rfl) (by kernel_rfl) ?_;dsimp only[Tryz.f56]
  push_cast -dsimp [h']
  exact ⟨[],rfl,rfl,by push_cast -dsimp [zb,za,CLe,zd,h',true_or,decide_true]⟩
 ·have h':=eq_false h
  refine Fun.of (fun _=>[]) Tryz.func56 rfl (zi rfl) (by kernel_rfl) ?_;dsimp only[Tryz.f56]
  push_cast -dsimp [h']
  exact ⟨[],rfl,rfl,by push_cast -dsimp [zb,za,CLe,zd,h',false_or]⟩
end
end
section
open CA CB
open Go.RowKit
abbrev zoE (d:jo):List C:=[.sc (.int .i64 d.w.fs.maxI),.sc (.int .i64 d.w.fs.maxB),.sc (.int .i64 d.w.fs.next),.sl 6 (zp d.w.fs.xs),.sl 4 (zE d.w.kept),.sl 6 (zp d.w.pool),.sl 5 (d.ops.map opL),.sl 1 (qZ d.diags),.sc (.int .i64 d.status),.sc (.int .i64 d.slot)]
abbrev zar (d:jo):C:=.agg (zoE d)
section
variable {G:zm}
theorem ud (w:qv) (hk:w.kept.length<=100000):Fun Tryz.prog G 30 [jv w] (zar (zdS w)) 0:=by
 have h:=zie (G:=G) w hk
 refine Fun.of (fun i=>if i=1 then [false,false,false,false,true] else []) Tryz.func30 rfl (zi rfl) (by kernel_rfl) ?_;dsimp only[Tryz.f30]
 push_cast -dsimp
 refine cl (h) ?_;push_cast -dsimp
 exact ⟨[],rfl,rfl,by push_cast -dsimp [zb,za,CLe,zd,zdS]⟩
end
end
section
open CA CB
open Go.RowKit
theorem kx {α κ:Type} [DecidableEq κ] {key:α->κ} {n:κ} {xs:List α} {i:Nat} (h:i<xs.length) (h0:JO key n (xs.take i)=false) :
  (key xs[i]=n->Ji key n xs=some xs[i])/\(key xs[i]≠n->JO key n (xs.take (i+1))=false):=by
 have e:xs=xs.take i++xs[i] :: xs.drop (i+1):=by rw[←List.drop_eq_getElem_cons h,List.take_append_drop]
 refine ⟨fun hk=>?_,fun hk=>?_⟩
 ·have q:Ji key n xs=Ji key n (xs.take i++xs[i] :: xs.drop (i+1)):=congrArg _ e
  rw[q]
  unfold Ji
  unfold JO at h0
  rw[List.any_eq_false]at h0
  rw[List.find?_append,List.find?_eq_none.2 fun x hx=>h0 x hx,Option.none_or,List.find?_cons,decide_eq_true hk]
 ·unfold JO at h0 ⊢
  rw[List.take_add_one,List.getElem?_eq_getElem h,List.any_append,h0]
  simp[hk]
theorem vA {α κ:Type} [DecidableEq κ] {key:α->κ} {n:κ} {xs:List α} (h0:JO key n xs=false):Ji key n xs=none:=by
 rw[jB]at h0
 cases h:Ji key n xs with
 | none=>rfl
 | some x=>rw[h]at h0;cases h0
theorem zav {α κ:Type} [DecidableEq κ] {key:α->κ} {n:κ} {xs:List α} {i:Nat} (h:i<xs.length) :
  JE key n (xs.take (i+1))=if key xs[i]=n then JE key n (xs.take i) else JE key n (xs.take i)++[xs[i]]:=by
 unfold JE
 rw[List.take_add_one,List.getElem?_eq_getElem h,List.filter_append]
 by_cases hk:key xs[i]=n<;>simp[hk]
theorem zhh (a b:List UInt8):(Op.bytesLess a b||decide (a=b)) = !Op.bytesLess b a:=by
 cases h:Op.bytesLess b a with
 | true =>
  have h1:Op.bytesLess a b=false:=js.asym h
  have h2:a≠b:=fun e=>by rw[e,VQ]at h;cases h
  rw[h1,decide_eq_false h2];rfl
 | false =>
  cases h1:Op.bytesLess a b with
  | true=>rfl
  | false=>rw[decide_eq_true (Ug h1 h)];rfl
section
variable {G:zm}
theorem zea (es:List zZ) (n:List UInt8) (hl:es.length<=100000):Fun Tryz.prog G 76 [.sl 2 (zG es),.str n] (.tup [.sc (.int .i64 (jN n es)),.sc (.bool (VG n es))]) 0:=by
 have hll:(zG es).length=es.length:=List.length_map ..
 refine Fun.of (fun _=>[]) Tryz.func76 rfl (zi rfl) (by kernel_rfl) ?_;dsimp only[Tryz.f76]
 push_cast -dsimp
 refine loop (fun i:Nat=>⟨[(0,.sl 2 (zG es)),(1,.str n),(6,.sc (.int .i64 i))],[],0,0⟩) (fun i=>i<=es.length/\JO zZ.name n (es.take i)=false) (fun i=>es.length-i) 0 ⟨Nat.zero_le _,rfl⟩ ?_ ?_
 ·exact zH.mk [] rfl rfl (Nat.zero_le _) rfl (by push_cast -dsimp [zb,za,CLe,zd]) (by push_cast -dsimp [zb,za,CLe,zd])
 ·rintro i ⟨h1,h2⟩
  by_cases h:i<es.length
  ·have g1:=j0 es i h
   obtain ⟨q1,q2⟩:=kx h h2
   by_cases he:es[i].name=n
   ·have q:=q1 he
    have e1:VG n es=true:=by unfold VG;rw[jB,q];rfl
    have e2:jN n es=es[i].ino:=by unfold jN;rw[q]
    push_cast -dsimp [hll,h,g1,he]
    (try simp only[lS]);repeat refine And.intro (by omega) ?_
    exact ⟨[],rfl,rfl,by push_cast -dsimp [zb,za,CLe,zd,e1,e2]⟩
   ·push_cast -dsimp [hll,h,g1,he]
    (try simp only[lS]);repeat refine And.intro (by omega) ?_
    exact ⟨i+1,⟨h,q2 he⟩,by omega,zH.mk [] rfl rfl (Nat.zero_le _) rfl (by push_cast -dsimp [zb,za,CLe,zd]) (by push_cast -dsimp [zb,za,CLe,zd])⟩
  ·rw[List.take_of_length_le (by omega)]at h2
   have e1:VG n es=false:=h2
   have e2:jN n es=0:=by unfold jN;rw[vA h2]
   push_cast -dsimp [hll,h]
   exact ⟨[],rfl,rfl,by push_cast -dsimp [zb,za,CLe,zd,e1,e2]⟩
theorem Xr (es:List zZ) (n:List UInt8) (hl:es.length<=90000):Fun Tryz.prog G 129 [.sl 2 (zG es),.str n] (.own 0 108 2 (zG (zh n es))) 1:=by
 have hll:(zG es).length=es.length:=List.length_map ..
 refine Fun.of (fun _=>[]) Tryz.func129 rfl (zi rfl) (by kernel_rfl) ?_;dsimp only[Tryz.f129]
 push_cast -dsimp
 refine loop (fun i:Nat=>⟨[(0,.sl 2 (zG es)),(1,.str n),(5,.own 0 108 2 (zG (zh n (es.take i)))),(6,.sc (.int .i64 i))],[],1,0⟩) (fun i=>i<=es.length) (fun i=>es.length-i) 0 (Nat.zero_le _) ?_ ?_
 ·exact zH.mk [.inr (108,2)] rfl rfl (Nat.zero_le _) rfl (by push_cast -dsimp [zb,za,CLe,zd,zh,JE,List.filter_nil]) (by push_cast -dsimp [zb,za,CLe,zd])
 ·intro i h1
  by_cases h:i<es.length
  ·have g1:=j0 es i h
   have ht:zh n (es.take (i+1))=if es[i].name=n then zh n (es.take i) else zh n (es.take i)++[es[i]]:=zav h
   have hle:(zh n (es.take i)).length<=i:=Nat.le_trans (YE n _) (by simp;omega)
   by_cases hc:es[i].name=n
   ·rw[if_pos hc]at ht
    push_cast -dsimp [hll,h,g1,hc]
    (try simp only[lS]);repeat refine And.intro (by omega) ?_
    exact ⟨i+1,h,by omega,zH.mk [.inl 0] rfl rfl (Nat.zero_le _) rfl (by push_cast -dsimp [zb,za,CLe,zd,ht]) (by push_cast -dsimp [zb,za,CLe,zd])⟩
   ·rw[if_neg hc]at ht
    push_cast -dsimp [hll,h,g1,hc]
    (try simp only[lS]);repeat refine And.intro (by omega) ?_
    exact ⟨i+1,h,by omega,zH.mk [.inl 0] rfl rfl (Nat.zero_le _) rfl (by push_cast -dsimp [zb,za,CLe,zd,ht,List.map_append]) (by push_cast -dsimp [zb,za,CLe,zd])⟩
  ·rw[List.take_of_length_le (by omega)]
   push_cast -dsimp [hll,h]
   exact ⟨[.inl 0],rfl,rfl,by push_cast -dsimp [zb,za,CLe,zd]⟩
theorem V6 (es:List zZ) (n:List UInt8) (j:Int) (hl:es.length<=90000):Fun Tryz.prog G 128 [.sl 2 (zG es),.str n,.sc (.int .i64 j)] (.own 0 108 2 (zG (zY n j es))) 1:=by
 have hdl:(zh n es).length<=90000:=Nat.le_trans (YE n _) hl
 have hl2:(zG (zh n es)).length=(zh n es).length:=List.length_map ..
 refine Fun.of (fun _=>[]) Tryz.func128 rfl (zi rfl) (by kernel_rfl) ?_;dsimp only[Tryz.f128]
 push_cast -dsimp
 refine cl (Xr es n hl) ?_;push_cast -dsimp
 show zdk _ _ _ _ _ _
 have hw:zY n j es=Xa js zZ.name ⟨n,j⟩ (zh n es):=rfl
 rw[hw]
 generalize zh n es=rest at hdl hl2
 refine loop (fun p:Nat×List zZ×Bool=>⟨[(1,.str n),(2,.sc (.int .i64 j)),(7,.sl 2 (zG rest)),(8,.own 0 108 2 (zG p.2.1)),(9,.sc (.bool p.2.2)),(10,.sc (.int .i64 p.1))],[],1,0⟩)
  (fun p=>p.1<=rest.length/\p.2.1.length<=p.1+p.2.2.toNat/\Xa js zZ.name ⟨n,j⟩ rest=p.2.1++(if p.2.2 then rest.drop p.1 else Xa js zZ.name ⟨n,j⟩ (rest.drop p.1))) (fun p=>rest.length-p.1) (0,[],false) ⟨Nat.zero_le _,Nat.zero_le _,by simp⟩ ?_ ?_
 ·exact zH.mk [.inr (108,2)] rfl rfl (Nat.zero_le _) rfl (by push_cast -dsimp [zb,za,CLe,zd]) (by push_cast -dsimp [zb,za,CLe,zd])
 ·rintro ⟨i,out,d⟩ ⟨h1,h2,h3⟩
  dsimp only at h1 h2 h3 ⊢
  have hlo:(zG out).length=out.length:=List.length_map ..
  by_cases h:i<rest.length
  ·have g1:=j0 rest i h
   rw[List.drop_eq_getElem_cons h]at h3
   cases d with
   | true =>
    simp only[Bool.toNat_true]at h2
    push_cast -dsimp [hl2,h,g1]
    (try simp only[lS]);repeat refine And.intro (by omega) ?_
    exact ⟨(i+1,out++[rest[i]],true),⟨h,by simp;omega,by rw[h3];simp⟩,by dsimp only;omega,zH.mk [.inl 0] rfl rfl (Nat.zero_le _) rfl (by push_cast -dsimp [zb,za,CLe,zd,List.map_append]) (by push_cast -dsimp [zb,za,CLe,zd])⟩
   | false =>
    simp only[Bool.false_eq_true,if_false,Xa]at h3
    simp only[Bool.toNat_false]at h2
    have hgl:=zhh rest[i].name n
    cases hc:Op.bytesLess n rest[i].name with
    | true =>
     rw[if_pos (show js.lt n rest[i].name=true from hc)]at h3
     rw[hc]at hgl
     push_cast -dsimp [hl2,h,g1,hgl]
     (try simp only[lS]);repeat refine And.intro (by omega) ?_
     exact ⟨(i+1,out++[(⟨n,j⟩:zZ)]++[rest[i]],true),⟨h,by simp;omega,by rw[h3];simp⟩,by dsimp only;omega,zH.mk [.inl 0] rfl rfl (Nat.zero_le _) rfl (by push_cast -dsimp [zb,za,CLe,zd,List.map_append]) (by push_cast -dsimp [zb,za,CLe,zd])⟩
    | false =>
     rw[if_neg (show ¬js.lt n rest[i].name=true by rw[show js.lt n rest[i].name=false from hc];decide)]at h3
     rw[hc]at hgl
     push_cast -dsimp [hl2,h,g1,hgl]
     (try simp only[lS]);repeat refine And.intro (by omega) ?_
     exact ⟨(i+1,out++[rest[i]],false),⟨h,by simp;omega,by rw[h3];simp⟩,by dsimp only;omega,zH.mk [.inl 0] rfl rfl (Nat.zero_le _) rfl (by push_cast -dsimp [zb,za,CLe,zd,List.map_append]) (by push_cast -dsimp [zb,za,CLe,zd])⟩
  ·rw[List.drop_of_length_le (by omega)]at h3
   cases d with
   | true =>
    simp only[Bool.toNat_true]at h2
    have h3:Xa js zZ.name ⟨n,j⟩ rest=out:=by rw[h3];simp
    push_cast -dsimp [hl2,h]
    exact ⟨[.inl 0],rfl,rfl,by push_cast -dsimp [zb,za,CLe,zd,h3]⟩
   | false =>
    simp only[Bool.toNat_false]at h2
    have h3:Xa js zZ.name ⟨n,j⟩ rest=out++[⟨n,j⟩]:=by rw[h3];simp[Xa]
    push_cast -dsimp [hl2,h]
    (try simp only[lS]);repeat refine And.intro (by omega) ?_
    exact ⟨[.inl 0],rfl,rfl,by push_cast -dsimp [zb,za,CLe,zd,h3,List.map_append]⟩
theorem VN (f:FsV) (hf:FsS f) (n b:Int) (hn:-1000000000<=n/\n<=1000000000) (hb:-1000000000<=b/\b<=1000000000):Fun Tryz.prog G 72 [.agg (fsC f),.sc (.int .i64 n),.sc (.int .i64 b)] (.sc (.bool (Jl f n b))) 0:=by
 have hll:(zp f.xs).length=f.xs.length:=List.length_map ..
 have h40:=hf.len
 have hbb:=hf.bytes
 have hbf:=Mu (G:=G) f hf
 by_cases h:(f.xs.length:Int)+n<=f.maxI
 ·have e:Jl f n b=decide ((ja f.xs:Int)+b<=f.maxB):=by unfold Jl;rw[decide_eq_true h,Bool.true_and]
  have h':(f.maxI<(f.xs.length:Int)+n)=False:=eq_false (by omega)
  refine Fun.of (fun _=>[]) Tryz.func72 rfl (zi rfl) (by kernel_rfl) ?_;dsimp only[Tryz.f72]
  push_cast -dsimp [hll,h']
  (try simp only[lS]);repeat refine And.intro (by omega) ?_
  refine cl (hbf) ?_;push_cast -dsimp
  (try simp only[lS]);repeat refine And.intro (by omega) ?_
  exact ⟨[],rfl,rfl,by push_cast -dsimp [zb,za,CLe,zd,e]⟩
 ·have e:Jl f n b=false:=by unfold Jl;rw[decide_eq_false h,Bool.false_and]
  have h':(f.maxI<(f.xs.length:Int)+n)=True:=eq_true (by omega)
  refine Fun.of (fun _=>[]) Tryz.func72 rfl (zi rfl) (by kernel_rfl) ?_;dsimp only[Tryz.f72]
  push_cast -dsimp [hll,h']
  (try simp only[lS]);repeat refine And.intro (by omega) ?_
  exact ⟨[],rfl,rfl,by push_cast -dsimp [zb,za,CLe,zd,e]⟩
end
theorem zjF (f:FsV) (hf:FsI f) (hs:FsS f) (p:List UInt8) (hp:p.length<=100000):Fun Tryz.prog G0 115 [.agg (fsC f),.str p] (.tup [.agg (YB (atV f p).1),.sc (.int .i64 (atV f p).2)]) 0:=by
 have hpl:=Z0 p (by omega)
 have hlen:=hs.len
 have hnl:(zJ p).length<=100000:=by have:=j6 p;omega
 cases hpp:Yk p with
 | false =>
  have e:atV f p=(Qr,9):=by unfold atV;rw[hpp];rfl
  unfold Yl at hpl
  rw[hpp]at hpl
  refine Fun.of (fun i=>if i=14 then [false,false,false,false,false,false,false,false,true] else []) Tryz.func115 rfl (zi rfl) (by kernel_rfl) ?_;dsimp only[Tryz.f115]
  push_cast -dsimp
  refine cl (hpl) ?_;push_cast -dsimp
  exact ⟨[],rfl,rfl,by push_cast -dsimp [zb,za,CLe,zd,e,Qr]⟩
 | true =>
  have e:atV f p=atW f.xs (zJ p) ⟨0,[],1⟩:=by unfold atV;rw[hpp];rfl
  unfold Yl at hpl
  rw[hpp,if_pos rfl]at hpl
  generalize zJ p=ns at hpl hnl e
  have hsl:(qZ ns).length=ns.length:=List.length_map ..
  refine Fun.of (fun i=>if i=14 then [false,false,false,false,false,false,false,false,true] else []) Tryz.func115 rfl (zi rfl) (by kernel_rfl) ?_;dsimp only[Tryz.f115]
  push_cast -dsimp
  refine cl (hpl) ?_;push_cast -dsimp
  refine loop (fun x:Nat×qM=>⟨[(1,.str p),(2,.ptr 0 0),(4,.ptr 1 0),(6,.own 0 9 1 (qZ ns)),(8,.ptr 2 0),(9,.sc (.int .i64 x.1))],[fsC f,[.sc (.int .i64 0),.str [],.sc (.int .i64 0)],YB x.2],1,0⟩)
   (fun x=>x.1<=ns.length/\atW f.xs ns ⟨0,[],1⟩=atW f.xs (ns.drop x.1) x.2/\(x.2.ino≠0->zF x.2.ino f.xs=true)) (fun x=>ns.length-x.1) (0,⟨0,[],1⟩) ⟨Nat.zero_le _,rfl,fun _=>hf.root⟩ ?_ ?_
  ·exact zH.mk [.inl 0] rfl rfl (Nat.zero_le _) rfl (by push_cast -dsimp [zb,za,CLe,zd,hsl]) (by push_cast -dsimp [zb,za,CLe,zd])
  rintro ⟨k,s⟩ ⟨hk,hat,hin⟩
  simp only at hk hat hin ⊢
  by_cases hlt:k<ns.length
  ·have gs:=Md hlt
   have hdr:ns.drop k=ns[k] :: ns.drop (k+1):=List.drop_eq_getElem_cons hlt
   obtain ⟨nm,hnm⟩:∃ nm,ns[k]=nm:=⟨_,rfl⟩
   rw[hnm]at gs hdr
   by_cases h0:s.ino=0
   ·have hr:atV f p=(Qr,1):=by rw[e,hat,hdr];unfold atW;rw[if_pos h0]
    push_cast -dsimp [hsl,hlt,h0]
    exact ⟨[],rfl,rfl,by push_cast -dsimp [zb,za,CLe,zd,hr,Qr]⟩
   ·have hh:=hin h0
    have hg:=qC (G:=G0) f s.ino (by omega)
    have hgg:=zk hh
    rw[hh]at hg
    by_cases hk2:(zg s.ino f.xs).kind=2
    ·have hfd:=zea (G:=G0) (zg s.ino f.xs).es nm (by have:=hs.es hh;omega)
     have hnx:atW f.xs ns ⟨0,[],1⟩=atW f.xs (ns.drop (k+1)) ⟨(zg s.ino f.xs).ino,nm,jN nm (zg s.ino f.xs).es⟩:=by
      rw[hat,hdr]
      conv=>lhs;unfold atW
      rw[if_neg h0,if_neg (by simp[hk2])]
     have hin2:jN nm (zg s.ino f.xs).es≠0->zF (jN nm (zg s.ino f.xs).es) f.xs=true:=fun hne=>by
      refine ym hf hh ?_
      unfold VG
      rw[jB]
      cases hq:Ji zZ.name nm (zg s.ino f.xs).es with
      | some e=>rfl
      | none=>unfold jN at hne;rw[hq]at hne;exact absurd rfl hne
     push_cast -dsimp [hsl,hlt,h0]
     refine cl (hg) ?_;push_cast -dsimp [hk2,gs]
     (try simp only[lS]);repeat refine And.intro (by omega) ?_
     refine cl (hfd) ?_;push_cast -dsimp [gs]
     (try simp only[lS]);repeat refine And.intro (by omega) ?_
     exact ⟨(k+1,⟨(zg s.ino f.xs).ino,nm,jN nm (zg s.ino f.xs).es⟩),⟨hlt,hnx,hin2⟩,by simp only;omega,zH.mk [.inl 0] rfl rfl (Nat.zero_le _) rfl (by push_cast -dsimp [zb,za,CLe,zd]) (by push_cast -dsimp [zb,za,CLe,zd])⟩
    ·have hr:atV f p=(Qr,3):=by rw[e,hat,hdr];unfold atW;rw[if_neg h0,if_pos hk2]
     push_cast -dsimp [hsl,hlt,h0]
     refine cl (hg) ?_;push_cast -dsimp [hk2]
     exact ⟨[],rfl,rfl,by push_cast -dsimp [zb,za,CLe,zd,hr,Qr]⟩
  ·have hd0:ns.drop k = []:=List.drop_of_length_le (by omega)
   have hr:atV f p=(s,0):=by rw[e,hat,hd0];rfl
   push_cast -dsimp [hsl,hlt]
   exact ⟨[],rfl,rfl,by push_cast -dsimp [zb,za,CLe,zd,hr]⟩
end
end Go.Proofs.YtiblepfehggicaaGreatDoor.Vcg
