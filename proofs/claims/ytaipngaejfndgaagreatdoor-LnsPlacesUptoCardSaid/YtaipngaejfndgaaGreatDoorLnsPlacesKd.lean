/- What the proof of LnsPlaces leans on, part 4: Path1 Path2 Path3 Path4 May1 May2 May3 Path5 Ref3 PathLaw Open Laid Op1 QuotePlain QuotePlain2 QuotePlain3 OpV Op2 Wld0 Ent1 Ent2 EntW TabW Wld1 Wld2 Wld3 Wld4 Wld5 Room Plc Crt Drp Mov SlcK Sts OpenW StW Sts2 StX Kep Stp Stp2 Stp3 Stp4 Deed Doo Dra1 Dra2 Rf4 Rf5 Rf6 Rf7 Op3 Op4 Op5 Ref19 Rf8 Snd2 Snd3 Snd4 Snd5 Snd6 Snd7. No condition beyond what each theorem states. -/
import Derived.Test.YtaipngaejfndgaaGreatDoorLnsPlacesKc
import Derived.Laws.Runes
import Derived.Laws.RangeString
import Derived.WalkKit
import Derived.Deep.LoopGhost
import Derived.Lib.QuoteLoop
import Derived.Lib.IndexAny
import Derived.ProofKit
import Derived.Deep.Slices
import Derived.Deep.Fields
import Derived.ChangeSame
import Derived.ChangeOld
import Derived.Lib.SmallJoins
import Derived.Lib.LaidU8
import Derived.OpenShut
import Derived.FnData
import Derived.Lib.Bytealg
set_option linter.unusedVariables false
set_option linter.unusedSimpArgs false
set_option linter.unusedSectionVars false
set_option maxRecDepth 100000
set_option maxHeartbeats 4000000
namespace Go.Proofs.YtaipngaejfndgaaGreatDoor.Vcg
variable {P:Program} {G:zp} {f:FsV} {args:List C} {r:C} {xs:List zn} {k N:Nat} {W:World} {l:List (Int×Int)} {x:zn} {n i:Int} {α κ:Type} {S:List Int}
section
open Go.RowKit
theorem Fun.wrap {f:FuncId} (he:Y1 P f=true)
  (h:∀ (R:Env) (vs:List Value),zy R zJ args vs->Calls P f vs.toArray R.w fun e w'=>∃ v,e = .returned v/\Below R.w.heap.size R.w w'/\∀ R',Ext R R'->Rep R' zJ r v):Fun P G f args r 0:=by
 refine ⟨he,fun R vs hg ha=>(h R vs ha).mono ?_⟩;rintro e w' ⟨v,rfl,hb,hr⟩;have st:qw 0 0 R zJ ⟨w',fun b o=>b<R.w.heap.size/\R.M b o,R.F⟩ zJ:=qw.mem (nx:=0) hb;exact ⟨v,_,zJ,rfl,rfl,st,hr _ st.ext⟩
def Ja:Lz->List Lz
 | []=>[[]]
 | b :: l=>if b=47 then [] :: Ja l else match Ja l with
  | []=>[[b]]
  | x :: r=>(b :: x) :: r
theorem GI (l:Lz):Ja l≠[]:=by
 cases l with
 | nil=>simp[Ja]
 | cons b l =>
  unfold Ja;split
  ·simp
  ·split<;>simp
theorem G9:∀ l:Lz,Lib.indexByte l 47<0->Ja l = [l]
 | [],_=>rfl
 | b :: l,h=>by
  unfold Lib.indexByte at h;by_cases hb:b=47
  ·subst hb;simp at h
  ·have hb':(b==47)=false:=by simpa using hb
   rw[hb']at h;simp only[WN,W2]at h;have hl:Lib.indexByte l 47<0:=by
    split at h
    ·rename_i g;have:=Oj.1 g;omega
    ·omega
   unfold Ja;rw[if_neg hb,G9 l hl]
theorem No:∀ l:Lz,-1<=Lib.indexByte l 47
 | []=>Ao _
 | b :: l=>by
  have:=No l;unfold Lib.indexByte;split
  ·decide
  ·split
   ·decide
   ·omega
theorem zaj:∀ (l:Lz) (i:Nat),Lib.indexByte l 47=(i:Int)->i<l.length/\Ja l=l.take i :: Ja (l.drop (i+1))
 | [],i,h=>by
  have h:(-1:Int)=(i:Int):=h;omega
 | b :: l,i,h=>by
  unfold Lib.indexByte at h;by_cases hb:b=47
  ·subst hb;simp at h;obtain rfl:i=0:=by omega
   refine ⟨by simp,?_⟩
   conv=>lhs;unfold Ja
   simp
  ·have hb':(b==47)=false:=by simpa using hb
   rw[hb']at h;simp only[WN,W2]at h;split at h
   ·omega
   ·rename_i g;have g':Lib.indexByte l 47≠-1:=by simpa using g
    have hg:=No l;obtain ⟨j,rfl⟩:∃ j,i=j+1:=⟨i-1,by omega⟩;have hj:Lib.indexByte l 47=(j:Int):=by omega
    obtain ⟨h1,h2⟩:=zaj l j hj;refine ⟨by simp;omega,?_⟩
    conv=>lhs;unfold Ja
    rw[if_neg hb,h2];simp
theorem kZ:∀ (l:Lz) (a:List Lz) (cur:Lz),zlo (l.foldl VL (a,cur))=a++(match Ja l with | []=>[] | x :: r=>(cur++x) :: r).filter (fun x=>!decide (x = []))
 | [],a,cur=>by
  simp only[BV,zlo,Ja];by_cases h:cur = []<;>simp[h]
 | b :: l,a,cur=>by
  simp only[Bo];by_cases hb:b=47
  ·subst hb;have hn:VL (a,cur) 47=(if cur = [] then a else a++[cur],[]):=by simp[VL]
   rw[hn,kZ l]
   conv=>rhs;unfold Ja
   simp only[if_true];have hne:=GI l;cases hs:Ja l with
   | nil=>exact absurd hs hne
   | cons x r=>by_cases h:cur = []<;>simp[h]
  ·have hn:VL (a,cur) b=(a,cur++[b]):=by simp[VL,hb]
   rw[hn,kZ l]
   conv=>rhs;unfold Ja
   rw[if_neg hb];have hne:=GI l;cases hs:Ja l with
   | nil=>exact absurd hs hne
   | cons x r=>simp
theorem JK (l:Lz):zm l=(Ja l).filter (fun x=>!decide (x = [])):=by
 unfold zm;rw[kZ];cases hs:Ja l with
 | nil=>rfl
 | cons x r=>simp
theorem zgX (l:Lz):Fun Tryz.prog G0 177 [.str l,.str [47]] (.sc (.int .i64 (Lib.indexByte l 47))) 0:=by
 refine Fun.wrap (by kernel_rfl) fun R vs h=>?_;obtain ⟨v1,us1,rfl,h1,h⟩:=zh.1 h;obtain ⟨v2,us2,rfl,h2,h⟩:=zh.1 h;rw[zl]at h;subst h;rw[zY]at h1 h2;subst h1 h2;refine (Tryz.strings_Index_one ⟨l.toArray⟩ 47 R.w).mono ?_;rintro e w' ⟨rfl,rfl⟩;exact ⟨_,rfl,W3 _ _,fun R' _=>zq.2 (by simp)⟩
theorem HS (s:Lz) (hs:s.length<=1000000):yD Tryz.prog G0 208 [] [.ptr 1 0,.ptr 0 0,.ptr 2 0] [[.str s],[.str [47]],[.sc (.int .i64 0)]] (zF (Ja s)):=by
 refine foI (fun _=>[]) Tryz.func208 ?_;dsimp only[Tryz.f208];intro l sf;push_cast;refine loop (fun x:Lz×Nat=>⟨[(0,.sc (.func (.yield l) #[] #[])),(1,.ptr 1 0),(2,.ptr 0 0),(3,.ptr 2 0)],[[.str x.1],[.str [47]],[.sc (.int .i64 0)]],0,x.2⟩)
  (fun x=>x.1.length<=1000000/\(∃ done,Ja s=done++Ja x.1/\done.length=x.2)/\∀ j,j<x.2->sf j=false) (fun x=>x.1.length) (s,0) ⟨hs,⟨[],rfl,rfl⟩,fun j hj=>by omega⟩ ?_ ?_
 ·refine JM.mk [] rfl rfl (Wc _) rfl ?_ ?_<;>push_cast [ze,zd,CLe,zf]<;>omega
 ·rintro ⟨r,k⟩ hx;simp only at hx ⊢;have hr:=hx.1;have hsf:=hx.2.2;obtain ⟨done,hd,hdl⟩:=hx.2.1;clear hx;push_cast;refine call (zgX r) ?_;push_cast;by_cases hi:Lib.indexByte r 47<0
  ·push_cast [hi];have hk:(zF (Ja s))[k]?=some [.str r]:=by
    rw[hd,G9 r hi];simp[←hdl]
   rw[hk];push_cast;refine ⟨by push_cast [ze,zd,CLe,zf],hsf,?_⟩;cases hk2:sf k with
   | true=>exact .inr ⟨A4 k,hk2⟩
   | false =>
    refine .inl ⟨?_,fun j (hj:j<k+1)=>?_⟩
    ·rw[hd,G9 r hi];simp[hdl]
    ·rcases Wr j k with g | g
     ·exact hsf j g
     ·rw[show j=k by omega];exact hk2
  ·have hg:=No r;obtain ⟨i,hii⟩:∃ i:Nat,Lib.indexByte r 47=(i:Int):=⟨(Lib.indexByte r 47).toNat,by omega⟩;obtain ⟨hir,hsp⟩:=zaj r i hii;have hk:(zF (Ja s))[k]?=some [.str (r.take i)]:=by
    rw[hd,hsp];simp[←hdl]
   rw[hii]at hi ⊢;push_cast [hi];rw[hk];push_cast;refine ⟨by omega,by omega,by push_cast [ze,zd,CLe,zf],hsf,br (fun hk2=>?_) (fun hk2=>?_)⟩
   ·push_cast;exact .inr ⟨A4 k,hk2⟩
   ·push_cast;refine ⟨by omega,by omega,(r.drop (i+1),k+1),⟨by simp;omega,⟨done++[r.take i],by rw[hd,hsp];simp,by simp[hdl]⟩,fun j (hj:j<k+1)=>?_⟩,by simp;omega,JM.mk [] rfl rfl (Wc _) rfl ?_ ?_⟩
    ·rcases Wr j k with g | g
     ·exact hsf j g
     ·rw[show j=k by omega];exact hk2
    ·push_cast [ze,zd,CLe,zf]
    ·push_cast [ze,zd,CLe,zf]
theorem yh (s:Lz):yc Tryz.prog G0 169 [.str s,.str [47],.sc (.int .i64 0)] [] 0 (.clo (.func 208) [] [.ptr 1 0,.ptr 0 0,.ptr 2 0]) [[.str s],[.str [47]],[.sc (.int .i64 0)]] 0:=by
 refine foB (fun _=>[]) Tryz.func169 ?_;dsimp only[Tryz.f169];push_cast;exact ⟨[],rfl,rfl,by push_cast [ze,zd,CLe,zf],by push_cast [ze,zd,CLe,zf]⟩
theorem xg (s:Lz):yc Tryz.prog G0 127 [.str s,.str [47]] [] 0 (.clo (.func 208) [] [.ptr 1 0,.ptr 0 0,.ptr 2 0]) [[.str s],[.str [47]],[.sc (.int .i64 0)]] 0:=by
 refine foB (fun _=>[]) Tryz.func127 ?_;dsimp only[Tryz.f127];push_cast;refine Xp [] [] (yh s) rfl (by simp) (by simp) (fun i hi=>by cases hi) (by push_cast) rfl ?_;push_cast;exact ⟨[],rfl,rfl,by push_cast [ze,zd,CLe,zf],by push_cast [ze,zd,CLe,zf]⟩
end
section
open Go.RowKit
abbrev GF (x:Lz):Bool:=!decide (x = [])
def cnt (xs:List Lz) (k:Nat):Nat:=((xs.take k).filter GF).length
theorem zaa (xs:List Lz) (k:Nat) (x:Lz) (h:xs[k]?=some x):cnt xs (k+1)=if x = [] then cnt xs k else cnt xs k+1:=by
 unfold cnt;rw[W1,h];by_cases hx:x = []<;>simp[hx]
theorem zn4 (xs:List Lz) (k:Nat) (x:Lz) (h:xs[k]?=some x) (hx:x≠[]):(xs.filter GF)[cnt xs k]?=some x:=by
 have hk:k<xs.length:=(Wd.1 h).1;have e:xs=xs.take k++x :: xs.drop (k+1):=by
  have:=Og k xs;rw[Oe hk]at this;rw[Wa hk]at h;cases h;exact this.symm
 have e2:xs.filter GF=(xs.take k).filter GF++x :: (xs.drop (k+1)).filter GF:=by
  conv=>lhs;rw[e]
  rw[OW,Ab];simp[hx]
 rw[e2];unfold cnt;simp
theorem zom (xs:List Lz):cnt xs xs.length=(xs.filter GF).length:=by unfold cnt;rw[Of]
theorem Vu {xs:List Lz} {sf:Nat->Bool}:∀ k,k<=xs.length->(∀ j,j<k->(GF (xs.getD j [])&&sf (cnt xs j))=false)->∀ j,j<cnt xs k->sf j=false
 | 0,_,_,j,hj=>by simp[cnt]at hj
 | k+1,hk,h,j,hj=>by
  have ih:=Vu k (by omega) fun i hi=>h i (by omega);have hx:xs[k]?=some (xs.getD k []):=by rw[W7,Wa (by omega)];rfl
  rw[zaa xs k _ hx]at hj;by_cases he:xs.getD k [] = []
  ·rw[if_pos he]at hj;exact ih j hj
  ·rw[if_neg he]at hj;rcases Wr j (cnt xs k) with g | g
   ·exact ih j g
   ·have h2:=h k (by omega);have h3:GF (xs.getD k [])=true:=by simp only[GF,Ar,Ow];exact he
    rw[h3,Ol]at h2;rw[show j=cnt xs k by omega];exact h2
theorem QM {xs:List Lz} {it:List C} (h:(zF xs)[k]?=some it):∃ x,xs[k]?=some x/\it = [.str x]:=by
 rw[Ws]at h;cases hq:xs[k]? with
 | none=>rw[hq]at h;cases h
 | some x=>rw[hq]at h;cases h;exact ⟨x,rfl,rfl⟩
theorem XG (p:Lz) (hs:p.length<=1000000):yD Tryz.prog G0 145 [] [.row [.str p]] [] (zF (zm p)):=by
 rw[JK];refine foI (fun _=>[]) Tryz.func145 ?_;dsimp only[Tryz.f145];intro l sf;push_cast;refine Xp [] [] (xg p) rfl (by simp) (by simp) (fun i hi=>by cases hi) (by push_cast) rfl ?_;push_cast;refine range (zF (Ja p)) (fun k=>GF ((Ja p).getD k [])&&sf (cnt (Ja p) k)) 1 (fun k=>⟨[],[[.sc (.func (.yield l) #[] #[])]],0,cnt (Ja p) k⟩) (HS p hs) (by push_cast) (by push_cast) (by push_cast) (Wc _) (by push_cast) (fun it hit=>?_) (fun k _=>rfl) ?_ (fun k it hk hsf=>?_) (fun hsf=>?_)
 ·obtain ⟨x,_,rfl⟩:=WR.1 hit;rfl
 ·exact wk
 ·obtain ⟨x,hx,rfl⟩:=QM hk;have hxd:(Ja p).getD k []=x:=by rw[W7,hx];rfl
  have hkl:k<(Ja p).length:=(Wd.1 hx).1;have hcs:=zaa (Ja p) k x hx;have hbef:=Vu (xs:=Ja p) (sf:=sf) k (by omega) hsf;by_cases he:x = []
  ·push_cast [he];refine ⟨?_,JM.mk [] rfl rfl (Wb _) ?_ (by push_cast [ze,zd,CLe,zf]) (by push_cast [ze,zd,CLe,zf])⟩
   ·rw[hxd,he];rfl
   ·simp[hcs,he,St.wt]
  ·have hget:=zn4 (Ja p) k x hx he;have hg2:(zF ((Ja p).filter GF))[cnt (Ja p) k]?=some [.str x]:=by rw[Ws,hget];rfl
   push_cast [he];rw[hg2];push_cast;refine ⟨by push_cast [ze,zd,CLe,zf],hbef,br (fun h2=>?_) (fun h2=>?_)⟩
   ·push_cast;refine ⟨by rw[hxd,h2];simp[GF,he],⟨[],[[.sc (.func (.yield l) #[] #[])]],0,cnt (Ja p) k+1⟩,rfl,wk,?_⟩;push_cast;exact .inr ⟨A4 _,h2⟩
   ·push_cast;refine ⟨by rw[h2,O9],JM.mk [] rfl rfl (Wb _) ?_ (by push_cast [ze,zd,CLe,zf]) (by push_cast [ze,zd,CLe,zf])⟩;simp[hcs,he,St.wt]
 ·have hall:=zom (Ja p);have hbef:=Vu (xs:=Ja p) (sf:=sf) (Ja p).length (Wb _) fun j hj=>hsf j (by simpa using hj);push_cast;refine .inl ⟨?_,?_⟩
  ·simp[hall]
  ·simpa using hbef
end
section
open Go.RowKit
theorem Yl (p:Lz):Fun Tryz.prog G0 99 [.str p] (.clo (.func 145) [] [.row [.str p]]) 0:=by
 refine fon Tryz.func99 ?_;dsimp only[Tryz.f99];push_cast;exact dn
theorem G7 (xs:List Lz) (f:FuncId) (cap:List C) (hsel:C.selL (Xn 1) cap=cap) (hit:yD Tryz.prog G0 f [] cap [] (zF xs)) (hx:xs.length<=1000001):Fun Tryz.prog G0 181 [.sc (.slice none 0 0),.clo (.func f) [] cap] (.own 0 9 1 (zF xs)) 1:=by
 refine fon Tryz.func181 ?_;dsimp only[Tryz.f181];push_cast;refine range (zF xs) (fun _=>false) 1 (fun k=>⟨[],[[.own 0 9 1 (zF (xs.take k))]],1,0⟩) hit (by push_cast) hsel (by push_cast) (Wc _) (by push_cast) (fun it h=>?_) (fun k _=>rfl) ?_ (fun k it hk hsf=>?_) (fun hsf=>?_)
 ·obtain ⟨x,_,rfl⟩:=WR.1 h;rfl
 ·exact wks [.inr (9,1)]
 ·obtain ⟨x,hx2,rfl⟩:=QM hk;have hkl:k<xs.length:=(Wd.1 hx2).1;push_cast;simp only[W6];refine ⟨by omega,by omega,JM.mk [.inl 0] rfl rfl (Wb _) rfl (by push_cast [ze,zd,CLe,zf]) ?_⟩;push_cast [ze,zd,CLe,zf];rw[W1,hx2]
  rfl
 ·push_cast;refine ⟨[.inl 0],rfl,rfl,?_⟩;push_cast [ze,zd,CLe,zf];simp
theorem yG (xs:List Lz) (f:FuncId) (cap:List C) (hsel:C.selL (Xn 1) cap=cap) (hfrz:C.frzL cap=cap) (hit:yD Tryz.prog G0 f [] cap [] (zF xs)) (hx:xs.length<=1000001):Fun Tryz.prog G0 157 [.clo (.func f) [] cap] (.own 0 9 1 (zF xs)) 1:=by
 refine fon Tryz.func157 ?_;dsimp only[Tryz.f157];push_cast [hfrz];refine call (G7 xs f cap hsel hit hx) ?_;push_cast;exact ⟨[.inl 0],rfl,rfl,by push_cast [ze,zd,CLe,zf]⟩
theorem Qx (p:Lz) (hp:p.length<=1000000):Fun Tryz.prog G0 157 [.clo (.func 145) [] [.row [.str p]]] (.own 0 9 1 (zF (zm p))) 1:=
 yG (zm p) _ _ (by push_cast) (by push_cast) (XG p hp) (by have:=qx p;omega)
theorem XA (s p:Lz):Fun Tryz.prog G0 98 [.str s,.str p] (.sc (.bool (Lib.hasPrefix s p))) 0:=by
 refine Fun.wrap (by kernel_rfl) fun R vs h=>?_;obtain ⟨v1,us1,rfl,h1,h⟩:=zh.1 h;obtain ⟨v2,us2,rfl,h2,h⟩:=zh.1 h;rw[zl]at h;subst h;rw[zY]at h1 h2;subst h1 h2;refine (Tryz.strings_HasPrefix ⟨s.toArray⟩ ⟨p.toArray⟩ R.w).mono ?_;rintro e w' ⟨rfl,rfl⟩;exact ⟨_,rfl,W3 _ _,fun R' _=>zq.2 (by simp)⟩
theorem ZO (s p:Lz) (hs:s.length<=1000000):Fun Tryz.prog G0 100 [.str s,.str p] (.sc (.bool (Lib.hasSuffix s p))) 0:=by
 refine Fun.wrap (by kernel_rfl) fun R vs h=>?_;obtain ⟨v1,us1,rfl,h1,h⟩:=zh.1 h;obtain ⟨v2,us2,rfl,h2,h⟩:=zh.1 h;rw[zl]at h;subst h;rw[zY]at h1 h2;subst h1 h2;refine (Tryz.strings_HasSuffix ⟨s.toArray⟩ ⟨p.toArray⟩ R.w (by simp[ByteArray.size];omega)).mono ?_;rintro e w' ⟨rfl,rfl⟩;exact ⟨_,rfl,W3 _ _,fun R' _=>zq.2 (by simp)⟩
theorem NG (xs:List Lz) (sep:Lz) (hx:xs.length<=1000001) (hl:(Lib.join xs sep).length<=100000000):Fun Tryz.prog G0 130 [.sl 1 (zF xs),.str sep] (.str (Lib.join xs sep)) 0:=by
 refine Fun.wrap (by kernel_rfl) fun R vs h=>?_;obtain ⟨v1,us1,rfl,h1,h⟩:=zh.1 h;obtain ⟨v2,us2,rfl,h2,h⟩:=zh.1 h;rw[zl]at h;subst h;rw[zY]at h2;subst h2;obtain ⟨a,cap,rfl,hc1,hc2,hr⟩:=GG.1 h1;have hlen:(zF xs).length=xs.length:=by simp
 have hmap:(xs.map fun x=>ByteArray.mk x.toArray).map (·.data.toList)=xs:=by
  rw[List.map_map]
  conv=>rhs;rw[←List.map_id xs]
  exact A8 fun x _=>by simp
 rcases hr with hr | ⟨b,o,rfl,hr⟩
 ·have:xs = []:=by simpa using hr
  subst this;refine (Tryz.strings_Join_none a cap ⟨sep.toArray⟩ R.w).mono ?_;rintro e w' ⟨rfl,rfl⟩;exact ⟨_,rfl,W3 _ _,fun R' _=>zY.2 (by simp[Lib.join])⟩
 ·by_cases hx0:xs = []
  ·subst hx0;refine (Tryz.strings_Join_none _ cap ⟨sep.toArray⟩ R.w).mono ?_;rintro e w' ⟨rfl,rfl⟩;exact ⟨_,rfl,W3 _ _,fun R' _=>zY.2 (by simp[Lib.join])⟩
  ·have hcells:∀ (j:Nat) x,(xs.map fun x=>ByteArray.mk x.toArray)[j]?=some x->R.w.cell? ⟨b,o+j,none⟩=some (.string x):=fun j x hj=>by
    rw[Ws]at hj;cases hq:xs[j]? with
    | none=>rw[hq]at hj;cases hj
    | some y =>
     rw[hq]at hj;cases hj;obtain ⟨_,g⟩:=jC hr j [.str y] (by rw[Ws,hq];rfl);obtain ⟨⟨v,g1,_,g2,_⟩,_⟩:=qo.1 g;rw[zY]at g2;subst g2;simpa using g1
   have hb:b<R.w.heap.size:=by
    cases xs with
    | nil=>exact absurd rfl hx0
    | cons x r =>
     exact yH (hcells 0 ⟨x.toArray⟩ rfl)
   have hj:=Tryz.strings_Join b o cap (xs.map fun x=>ByteArray.mk x.toArray) ⟨sep.toArray⟩ R.w hcells hb (by simp;omega) (by simpa using hc1) (by rw[hmap];simp;omega);rw[hmap]at hj;simp only[We]at hj;rw[hlen];refine hj.mono ?_;rintro e w' ⟨rfl,hbl⟩;exact ⟨_,rfl,hbl,fun R' _=>zY.2 (by simp)⟩
end
section
open Go.RowKit
def HM (p:Lz):C:=.agg [qM (Lib.hasPrefix p [47]),.own 0 9 1 (zF (zm p)),qM (!decide (zm p = [])&&Lib.hasSuffix p [47])]
theorem UK (p:Lz) (hp:p.length<=1000000):Fun Tryz.prog G0 107 [.str p] (HM p) 1:=by
 refine fon Tryz.func107 ?_;dsimp only[Tryz.f107];push_cast;refine call (Yl p) ?_;push_cast;refine call (Qx p hp) ?_;push_cast;refine call (XA p [47]) ?_;push_cast;by_cases h:zm p = []
 ·push_cast [h];exact ⟨[.inl 0],rfl,rfl,by simp only[HM];push_cast [ze,zd,CLe,zf,h];simp⟩
 ·have h':0<(zm p).length:=WE.2 h;push_cast [h'];refine call (ZO p [47] hp) ?_;push_cast;exact ⟨[.inl 0],rfl,rfl,by simp only[HM];push_cast [ze,zd,CLe,zf,h]⟩
def put (a:Bool) (xs:List Lz) (s:Bool):Lz:=(if a then [47] else [])++Lib.join xs [47]++(if s&&!decide (xs = []) then [47] else [])
def qS (xs:List Lz):Lz:=if xs = [] then [47] else 47 :: Lib.join xs [47]
theorem Qf (xs:List Lz) (hx:xs.length<=1000001) (hl:(Lib.join xs [47]).length<=100000000):Fun Tryz.prog G0 109 [.sl 1 (zF xs)] (.str (qS xs)) 0:=by
 refine fon Tryz.func109 ?_;dsimp only[Tryz.f109];push_cast;by_cases h:xs = []
 ·push_cast [h];exact ⟨[],rfl,rfl,by simp only[qS,h];push_cast [ze,zd,CLe,zf]⟩
 ·have h':¬((xs.length:Int)=0):=by have:=WE.2 h;omega
  push_cast [h'];refine call ((NG xs [47] hx hl)) ?_;push_cast;exact ⟨by omega,[],rfl,rfl,by simp only[qS,if_neg h];push_cast [ze,zd,CLe,zf]⟩
def X3 (p:Lz):Bool:=(zm p).any (fun x=>decide (255<x.length))||decide (4095<p.length)
theorem zbi (p:Lz) (hp:p.length<=1000000):Fun Tryz.prog G0 72 [.str p] (qM (X3 p)) 0:=by
 refine fon Tryz.func72 ?_;dsimp only[Tryz.f72];push_cast;refine call (Yl p) ?_;push_cast;refine range (zF (zm p)) (fun k=>decide (255<((zm p).getD k []).length)) 1 (fun k=>⟨[],[[.sc (.bool false)]],0,0⟩) (XG p hp) (by push_cast) (by push_cast) (by push_cast) (Wc _) (by push_cast) (fun it h=>?_) (fun k _=>rfl) ?_ (fun k it hk hsf=>?_) (fun hsf=>?_)
 ·obtain ⟨x,_,rfl⟩:=WR.1 h;rfl
 ·exact wk
 ·obtain ⟨x,hx,rfl⟩:=QM hk;have hxd:(zm p).getD k []=x:=by rw[W7,hx];rfl
  push_cast;rw[hxd];refine br (fun h=>?_) (fun h=>?_)
  ·have h':255<x.length:=by have:=WQ h;omega
   push_cast;refine ⟨by simpa using h',⟨[],[[.sc (.bool true)]],0,0⟩,rfl,wk,?_⟩;push_cast;refine ⟨[],rfl,rfl,?_⟩;push_cast [ze,zd,CLe,zf];have:(zm p).any (fun x=>decide (255<x.length))=true:=OA.2 ⟨x,Wf hx,by simpa using h'⟩;simp[X3,this]
  ·have h':¬255<x.length:=by have:=OP h;omega
   push_cast;exact ⟨by simpa using h',wk⟩
 ·push_cast;refine ⟨[],rfl,rfl,?_⟩;push_cast [ze,zd,CLe,zf];have:(zm p).any (fun x=>decide (255<x.length))=false:=Om.2 fun x hx=>by
   obtain ⟨k,hk,rfl⟩:=WF hx;have:=hsf k (by simpa using hk);rw[W7,Wa hk]at this;simpa using this
  simp[X3,this];omega
def J7 (p:Lz):Lz:=(zm p).getLastD (if Lib.hasPrefix p [47] then [47] else [])
theorem zal (p:Lz) (hp:p.length<=1000000):Fun Tryz.prog G0 47 [.str p] (.str (J7 p)) 0:=by
 refine fon Tryz.func47 ?_;dsimp only[Tryz.f47];push_cast;refine call (XA p [47]) ?_;push_cast;have go:∀ b0:Lz,b0=(if Lib.hasPrefix p [47] then [47] else [])->J7 p=((zm p).take (zm p).length).getLastD b0:=fun b0 hb=>by rw[Of,hb];rfl
 have main:∀ b0:Lz,b0=(if Lib.hasPrefix p [47] then [47] else [])->∀ k x,(zm p)[k]?=some x->((zm p).take (k+1)).getLastD b0=x:=fun b0 _ k x hx=>by
  rw[W1,hx];simp
 cases hpf:Lib.hasPrefix p [47] with
 | true =>
  rw[hpf]at go main;push_cast;refine call (Yl p) ?_;push_cast;refine range (zF (zm p)) (fun k=>false) 1 (fun k=>⟨[],[[.str (((zm p).take k).getLastD [47])]],0,0⟩) (XG p hp) (by push_cast) (by push_cast) (by push_cast) (Wc _) (by push_cast) (fun it h=>?_) (fun k _=>rfl) ?_ (fun k it hk hsf=>?_) (fun hsf=>?_)
  ·obtain ⟨x,_,rfl⟩:=WR.1 h;rfl
  ·exact JM.mk [] rfl rfl (Wb _) rfl (by push_cast [ze,zd,CLe,zf]) (by push_cast [ze,zd,CLe,zf];rfl)
  ·obtain ⟨x,hx,rfl⟩:=QM hk;have:=main [47] rfl k x hx;push_cast;exact wk (h5:=by push_cast [ze,zd,CLe,zf,this])
  ·have:=go [47] rfl;push_cast;exact ⟨[],rfl,rfl,by push_cast [ze,zd,CLe,zf];exact this.symm⟩
 | false =>
  rw[hpf]at go main;push_cast;refine call (Yl p) ?_;push_cast;refine range (zF (zm p)) (fun k=>false) 1 (fun k=>⟨[],[[.str (((zm p).take k).getLastD [])]],0,0⟩) (XG p hp) (by push_cast) (by push_cast) (by push_cast) (Wc _) (by push_cast) (fun it h=>?_) (fun k _=>rfl) ?_ (fun k it hk hsf=>?_) (fun hsf=>?_)
  ·obtain ⟨x,_,rfl⟩:=WR.1 h;rfl
  ·exact JM.mk [] rfl rfl (Wb _) rfl (by push_cast [ze,zd,CLe,zf]) (by push_cast [ze,zd,CLe,zf];rfl)
  ·obtain ⟨x,hx,rfl⟩:=QM hk;have:=main [] rfl k x hx;push_cast;exact wk (h5:=by push_cast [ze,zd,CLe,zf,this])
  ·have:=go [] rfl;push_cast;exact ⟨[],rfl,rfl,by push_cast [ze,zd,CLe,zf];exact this.symm⟩
def Q8 (p q:Lz):Bool:=decide (p=q)||decide (q = [47])||Lib.hasPrefix p (q++[47])
theorem H3 (p q:Lz) (hq:q.length<=1000000):Fun Tryz.prog G0 185 [.str p,.str q] (qM (Q8 p q)) 0:=by
 refine fon Tryz.func185 ?_;dsimp only[Tryz.f185];push_cast;by_cases h1:p=q
 ·push_cast [h1];exact ⟨[],rfl,rfl,by push_cast [ze,zd,CLe,zf];simp[Q8]⟩
 ·by_cases h2:q = [47]
  ·subst h2;push_cast [h1];exact ⟨[],rfl,rfl,by push_cast [ze,zd,CLe,zf];simp[Q8]⟩
  ·push_cast [h1,h2];refine ⟨by omega,?_⟩;refine call (XA p (q++[47])) ?_;push_cast;exact ⟨[],rfl,rfl,by push_cast [ze,zd,CLe,zf];simp[Q8,h1,h2]⟩
end
section
open Go.RowKit
theorem Zw (l:Lz) (c:UInt8):Fun Tryz.prog G0 71 [.str l,.sc (.int .u8 (c.toNat:Int))] (.sc (.int .i64 (Lib.indexByte l c))) 0:=by
 refine Fun.wrap (by kernel_rfl) fun R vs h=>?_;obtain ⟨v1,us1,rfl,h1,h⟩:=zh.1 h;obtain ⟨v2,us2,rfl,h2,h⟩:=zh.1 h;rw[zl]at h;subst h;rw[zY]at h1;rw[zq]at h2;subst h1 h2;refine (Tryz.strings_IndexByte ⟨l.toArray⟩ (c.toNat:Int) R.w).mono ?_;rintro e w' ⟨rfl,rfl⟩;exact ⟨_,rfl,W3 _ _,fun R' _=>zq.2 (by simp)⟩
theorem XH (r:Int):Fun Tryz.prog G0 243 [.sc (.int .i32 r)] (.sc (.bool (Lib.validRune r))) 0:=by
 refine Fun.wrap (by kernel_rfl) fun R vs h=>?_;obtain ⟨v1,us1,rfl,h1,h⟩:=zh.1 h;rw[zl]at h;subst h;rw[zq]at h1;subst h1;refine (Tryz.utf8_ValidRune r R.w).mono ?_;rintro e w' ⟨rfl,rfl⟩;exact ⟨_,rfl,W3 _ _,fun R' _=>zq.2 rfl⟩
theorem zic (r:Int) (hv:Utf8.valid r=true) (h128:128<=r):∃ l c,(Utf8.encode r).data.toList=l++[c]/\1<=l.length/\l.length<=3/\128<=c.toNat:=by
 obtain ⟨h1,h2,h3⟩:=encode_facts r hv h128;generalize Utf8.encode r=bs at h1 h2 h3 ⊢;have hs:bs.data.toList.length=bs.size:=WW;have h4:=h3 (by omega);have h5:bs.data.toList[bs.size-1]?=some (bs[bs.size-1]'(by omega)):=Lib.data_getElem? bs _ (by omega);generalize bs[bs.size-1]'(by omega)=c at h4 h5;generalize bs.data.toList=l at hs h5;refine ⟨l.take (bs.size-1),c,?_,by simp;omega,by simp;omega,h4⟩;have:=Og (bs.size-1) l;have hd:l.drop (bs.size-1) = [c]:=by
  have hlt:bs.size-1<l.length:=by omega
  rw[Oe hlt];rw[Wa hlt]at h5;cases h5;rw[AE (by omega)]
 rw[hd]at this;exact this.symm
theorem xB (r:Int) (h1:128<=r) (hv:Utf8.valid r=true) (h2:r≠65533):Fun Tryz.prog G0 204 [.str [47,0],.sc (.int .i32 r)] (.sc (.int .i64 (-1))) 0:=by
 have hlv:Lib.validRune r=true:=by
  have:=validRune_eq r;rw[hv]at this;exact this.symm
 obtain ⟨l,c,he,hl1,hl3,hc⟩:=zic r hv h1;have ha:0<=r:=by omega
 have hb:¬r<128:=by omega
 have hc0:¬((0:Int)=(c.toNat:Int)):=by omega
 have hix:=Zw [] c
 match l,hl1,hl3 with
 | [x],_,_ =>
  refine fon Tryz.func204 ?_;dsimp only[Tryz.f204];push_cast [ha,hb,h2];refine call (XH r) ?_;push_cast [hlv,he];refine loop (fun k:Nat=>⟨[(0,.str [47,0]),(1,.sc (.int .i32 r)),(7,.str [x,c]),(8,.sc (.int .i64 1)),(9,.sc (.int .i64 1)),(10,.sc (.int .i64 0))],[],0,0⟩) (fun k=>True) (fun k=>0) 0 trivial ?_ ?_
  ·exact wk
  ·intro k _;push_cast [hc0];refine zcq hix ?_;have hi0:Lib.indexByte [] c = -1:=rfl;push_cast [hi0];exact dn
 | [x,y],_,_ =>
  refine fon Tryz.func204 ?_;dsimp only[Tryz.f204];push_cast [ha,hb,h2];refine call (XH r) ?_;push_cast [hlv,he];refine loop (fun k:Nat=>⟨[(0,.str [47,0]),(9,.sc (.int .i64 2))],[],0,0⟩) (fun k=>True) (fun k=>0) 0 trivial ?_ ?_
  ·exact wk
  ·intro k _;push_cast;exact dn
 | [x,y,z],_,_ =>
  refine fon Tryz.func204 ?_;dsimp only[Tryz.f204];push_cast [ha,hb,h2];refine call (XH r) ?_;push_cast [hlv,he];refine loop (fun k:Nat=>⟨[(0,.str [47,0]),(9,.sc (.int .i64 3))],[],0,0⟩) (fun k=>True) (fun k=>0) 0 trivial ?_ ?_
  ·exact wk
  ·intro k _;push_cast;exact dn
theorem GW (w:World):Calls Tryz.prog 204 #[.string ⟨#[47,0]⟩,.int .i32 65533] w fun e w'=>e = .returned (.int .i64 (-1))/\Below w.heap.size w w':=by
 go_enter Tryz.func204,Tryz.ntmps204
 go_wp2
 go_loopg [5,6] 2 (fun g _ _ wx=>∃ i:Nat,i+g=2/\wx=w.iter ⟨#[47,0]⟩ i)
 case atStart=>exact ⟨0,by omega,rfl⟩
 case round =>
  obtain ⟨i,hig,rfl⟩:=hrel;cases gk with
  | zero =>
   obtain rfl:i=2:=by omega
   have hnx:=fun ty=>run_next_end (P:=Tryz.prog) w ⟨#[47,0]⟩ 2 ty (by decide)
   go_wp2
   go_ret
   exact ⟨rfl,(W3 _ _).alloc (Wb _) _⟩
  | succ g =>
   have hi:i<(ByteArray.mk #[47,0]).size:=by show i<2;omega
   have hx128:((ByteArray.mk #[47,0])[i]'hi).toNat<128:=by
    have:i=0∨i=1:=by omega
    rcases this with rfl | rfl
    ·exact (by decide:(47:UInt8).toNat<128)
    ·exact (by decide:(0:UInt8).toNat<128)
   have hnx:=fun ty=>run_next_ascii (P:=Tryz.prog) w ⟨#[47,0]⟩ i ty hi hx128;have hne:((((ByteArray.mk #[47,0])[i]'hi).toNat:Int)==65533)=false:=by
    rw[Ot];omega
   go_wp2
   go_roundg g
   case measure=>omega
   case rel=>exact ⟨i+1,by omega,rfl⟩
end
section
open Go.RowKit Go.Shelf
def bad (b:UInt8):Bool:=decide (b=47)||decide (b=0)
theorem V7 (b:UInt8):[47,0].contains b=bad b:=by simp[bad,List.contains_iff_mem,Bool.eq_iff_iff]
theorem yQ {b:Nat} {s:ByteArray} {pos:Nat} (hb:W.heap[b]?=some (.stringIter s pos)) (h:pos<s.size) (ty:TypeId) :
  (Instr.next (.pointer (some ⟨b,0,none⟩)) true ty).run P W = .ok (.tuple #[.bool true,.int .i64 pos,.int .i32 (Utf8.decode s pos).1]) (W.putObj b (.stringIter s (pos+(Utf8.decode s pos).2))):=by
 simp only[Instr.next,getObj,setObj,Wn,Sem.run,hb,Result.andThen,h,if_true];simp[goInt,Sem.run,hb,World.putObj]
theorem kw {b:Nat} {s:ByteArray} {pos:Nat} (hb:W.heap[b]?=some (.stringIter s pos)) (h:¬pos<s.size) (ty:TypeId) :
  (Instr.next (.pointer (some ⟨b,0,none⟩)) true ty).run P W = .ok (.tuple #[.bool false]) W:=by
 simp[Instr.next,getObj,Sem.run,hb,h]
theorem get!_eq (s:ByteArray) (k:Nat) (hk:k<s.size):s.get! k=s[k]'hk:=by
 simp[ByteArray.get!,BQ,hk];rfl
theorem zk0 {c:Nat} (h:c<55296∨(57344<=c/\c<=1114111)):Utf8.valid (c:Int)=true:=by
 unfold Utf8.valid;rcases h with h | h
 ·have h1:((c:Int)<55296):=by omega
  simp;omega
 ·simp;omega
theorem vC (s:ByteArray) (i:Nat) (h:i<s.size):(((s[i]'h).toNat<128/\Utf8.decode s i=((s[i]'h).toNat,1))∨(128<=(Utf8.decode s i).1/\Utf8.valid ((Utf8.decode s i).1:Int)=true/\1<=(Utf8.decode s i).2/\i+(Utf8.decode s i).2<=s.size/\∀ j (hj:j<s.size),i<=j->j<i+(Utf8.decode s i).2->128<=(s[j]'hj).toNat)):=by
 by_cases ha:(s[i]'h).toNat<128
 ·exact .inl ⟨ha,decode_ascii s i h ha⟩
 ·refine .inr ?_;have hb0:¬(s.get! (i+0)).toNat<128:=by rw[Ag,get!_eq s i h];exact ha
  have hby:∀ n,(∀ k,k<n->128<=(s.get! (i+k)).toNat)->∀ j (hj:j<s.size),i<=j->j<i+n->128<=(s[j]'hj).toNat:=fun n hn j hj h1 h2=>by
   have:=hn (j-i) (by omega);rw[show i+(j-i)=j by omega,get!_eq s j hj]at this;exact this
  have hone:128<=65533/\Utf8.valid ((65533:Nat):Int)=true/\1<=1/\i+1<=s.size/\∀ j (hj:j<s.size),i<=j->j<i+1->128<=(s[j]'hj).toNat:=
   ⟨by omega,by decide,by omega,by omega,hby 1 fun k hk=>by rw[show k=0 by omega];omega⟩
  unfold Utf8.decode;simp only[if_neg hb0,Utf8.runeError];obtain ⟨b0,hg0⟩:∃ b,(s.get! (i+0)).toNat=b:=⟨_,rfl⟩;obtain ⟨b1,hg1⟩:∃ b,(s.get! (i+1)).toNat=b:=⟨_,rfl⟩;obtain ⟨b2,hg2⟩:∃ b,(s.get! (i+2)).toNat=b:=⟨_,rfl⟩;obtain ⟨b3,hg3⟩:∃ b,(s.get! (i+3)).toNat=b:=⟨_,rfl⟩;rw[hg0]at hb0;simp only[hg0,hg1,hg2,hg3];have hlt:b0<256:=by rw[←hg0];exact (s.get! (i+0)).toNat_lt
  split
  ·rename_i hc;simp only[Wt,Oj,W8]at hc;split
   ·rename_i hv;refine ⟨by show 128<=_;omega,zk0 (.inl (by omega)),by show 1<=2;omega,by show i+2<=_;omega,hby 2 fun k hk=>?_⟩;rcases (show k=0∨k=1 by omega) with rfl | rfl
    ·rw[hg0];omega
    ·rw[hg1];omega
   ·exact hone
  ·split
   ·rename_i hc;simp only[Wt,Oj,W8]at hc;split
    ·rename_i hv;simp only[Wt,W8]at hv;refine ⟨by show 128<=_;omega,hv.2,by show 1<=3;omega,by show i+3<=_;omega,hby 3 fun k hk=>?_⟩;rcases (show k=0∨k=1∨k=2 by omega) with rfl | rfl | rfl
     ·rw[hg0];omega
     ·rw[hg1];omega
     ·rw[hg2];omega
    ·exact hone
   ·split
    ·rename_i hc;simp only[Wt,Oj,W8]at hc;split
     ·rename_i hv;simp only[Wt,W8]at hv;refine ⟨by show 128<=_;omega,hv.2,by show 1<=4;omega,by show i+4<=_;omega,hby 4 fun k hk=>?_⟩;rcases (show k=0∨k=1∨k=2∨k=3 by omega) with rfl | rfl | rfl | rfl
      ·rw[hg0];omega
      ·rw[hg1];omega
      ·rw[hg2];omega
      ·rw[hg3];omega
     ·exact hone
    ·exact hone
theorem Nf (r:Int) (h1:128<=r) (hv:Utf8.valid r=true) (w:World):Calls Tryz.prog 204 #[.string ⟨#[47,0]⟩,.int .i32 r] w fun e w'=>e = .returned (.int .i64 (-1))/\Below w.heap.size w w':=by
 by_cases h2:r=65533
 ·subst h2;exact GW w
 ·refine ((xB r h1 hv h2).2 ⟨w,fun _ _=>False,fun _=>False⟩ [.string ⟨#[47,0]⟩,.int .i32 r] (fun g cs h=>by cases h) ?_).mono ?_
  ·exact zh.2 ⟨_,_,rfl,zY.2 rfl,zh.2 ⟨_,_,rfl,zq.2 rfl,zl.2 rfl⟩⟩
  ·rintro e w' ⟨v,R',L',rfl,rfl,hst,hr⟩;rw[zq]at hr;exact ⟨by rw[hr],hst.below⟩
theorem zhv (w:World) (s:ByteArray):(w.iter s 0).heap[w.heap.size]?=some (.stringIter s 0):=World.iter_heap w s 0
theorem vV {w:World} {s:ByteArray} {p:Nat} (hb:Below w.heap.size w W) (hs:W.heap[w.heap.size]?=some (.stringIter s p)) (p':Nat):Below w.heap.size w (W.putObj w.heap.size (.stringIter s p'))/\(W.putObj w.heap.size (.stringIter s p')).heap[w.heap.size]?=some (.stringIter s p'):=
 ⟨⟨hb.os,hb.tape,hb.output,by simpa using hb.size,fun k hk=>(WX (by omega)).trans (hb.block k hk)⟩,Bc (qc hs)⟩
theorem zbF {w W':World} {s:ByteArray} {p:Nat} (hb:Below w.heap.size w W) (hs:W.heap[w.heap.size]?=some (.stringIter s p)) (h:Below W.heap.size W W'):Below w.heap.size w W'/\W'.heap[w.heap.size]?=some (.stringIter s p):=
 ⟨hb.trans (h.mono hb.size),(h.block _ (qc hs)).trans hs⟩
theorem HU (s:ByteArray) (w:World) (h8:s.size<=8):Calls Tryz.prog 167 #[.string s,.string ⟨#[47,0]⟩] w fun e w'=>e = .returned (.int .i64 (Lib.indexAny s.data.toList [47,0]))/\Below w.heap.size w w':=by
 have h8z:decide ((8:Int)<(s.size:Int))=false:=Wp (by omega);have hsi:=zhv w s;have hbi:Below w.heap.size w (w.iter s 0):=(W3 _ _).alloc (Wb _) _;have HI:Aside ((w.iter s 0).heap[w.heap.size]?=some (.stringIter s 0)/\Below w.heap.size w (w.iter s 0)):=⟨hsi,hbi⟩;clear hsi hbi
 go_enter Tryz.func167,Tryz.ntmps167
 go_wp2_with (go_at_call 205;refine (Tryz.strings_shouldUseASCIISet _ _).mono ?_;rintro e w' ⟨rfl,hw⟩;rw[hw,h8z])
 go_loopg [9,10] s.size (fun g _ _ wx=>∃ i:Nat,i+g=s.size/\wx.heap[w.heap.size]?=some (.stringIter s i)/\Below w.heap.size w wx/\Lib.NoAny s.data.toList [47,0] i)
 case atStart=>exact ⟨0,by omega,HI.out.1,HI.out.2,Lib.NoAny.zero _ _⟩
 case round =>
  obtain ⟨i,hig,hs,hbl,hno⟩:=hrel;have HN:Aside (Lib.NoAny s.data.toList [47,0] i/\wr.heap[w.heap.size]?=some (.stringIter s i)/\Below w.heap.size w wr):=⟨hno,hs,hbl⟩;cases gk with
  | zero =>
   obtain rfl:i=s.size:=by omega
   have hnx:=fun ty=>kw (P:=Tryz.prog) hs (by omega) ty;clear hno hs hbl
   go_wp2
   go_ret
   exact ⟨by rw[Lib.indexAny_none (by rw[←Lib.size_eq];exact HN.out.1)];rfl,HN.out.2.2⟩
  | succ g =>
   have hi:i<s.size:=by omega
   have hnx:=fun ty=>yQ (P:=Tryz.prog) hs hi ty;have hpi:=vV hbl hs (i+(Utf8.decode s i).2);have HP:Aside (Below w.heap.size w (wr.putObj w.heap.size (.stringIter s (i+(Utf8.decode s i).2)))/\(wr.putObj w.heap.size (.stringIter s (i+(Utf8.decode s i).2))).heap[w.heap.size]?=some (.stringIter s (i+(Utf8.decode s i).2))):=hpi;clear hno hs hbl hpi;obtain ⟨x,hx⟩:∃ x:UInt8,s[i]'hi=x:=⟨_,rfl⟩;have hxl:s.data.toList[i]?=some x:=by rw[←hx];exact Lib.data_getElem? s i hi
   rcases vC s i hi with ⟨hd1,hd2⟩ | ⟨hd1,hd2,hd3,hd4,hd5⟩
   ·rw[hx]at hd1 hd2;rw[hd2]at hnx HP;have Hx:Aside (s.data.toList[i]?=some x):=hxl;clear hxl hx hd2;have hcon:=Lib.contains_iff_indexByte [47,0] x;have hback:((x.toNat:Int)).toNat.toUInt8=x:=by simp
    cases hin:([47,0]:Lz).contains x
    ·rw[hin]at hcon;have hlt:¬((0:Int)<=Lib.indexByte [47,0] x):=OP hcon.symm;clear hcon
     go_wp2_with (go_at_call 204;refine (Tryz.strings_IndexRune_ascii _ _ _ (by omega) (by omega)).mono ?_;rintro e w' ⟨rfl,hw⟩;rw[hw,hback])
     go_roundg g
     case measure=>omega
     case rel=>exact ⟨i+1,by omega,HP.out.2,HP.out.1,HN.out.1.succ Hx.out hin⟩
    ·rw[hin]at hcon;have hge:(0:Int)<=Lib.indexByte [47,0] x:=WQ hcon.symm;clear hcon
     go_wp2_with (go_at_call 204;refine (Tryz.strings_IndexRune_ascii _ _ _ (by omega) (by omega)).mono ?_;rintro e w' ⟨rfl,hw⟩;rw[hw,hback])
     go_ret
     exact ⟨by rw[Lib.indexAny_hit HN.out.1 Hx.out hin];rfl,HP.out.1⟩
   ·obtain ⟨c,hc⟩:∃ c,(Utf8.decode s i).1=c:=⟨_,rfl⟩;obtain ⟨n,hn⟩:∃ n,(Utf8.decode s i).2=n:=⟨_,rfl⟩;rw[hc,hn]at hnx;rw[hn]at HP hd3 hd4 hd5;rw[hc]at hd1 hd2;have H5:Aside (∀ j (hj:j<s.size),i<=j->j<i+n->128<=(s[j]'hj).toNat):=hd5;have H2:Aside (Utf8.valid (c:Int)=true):=hd2;clear hd5 hd2 hxl hx hc hn
    go_wp2_with (go_at_call 204;refine (Nf _ (by omega) H2.out _).mono ?_;rintro e w' ⟨rfl,hw⟩;have HW:=zbF HP.out.1 HP.out.2 hw)
    go_roundg (s.size-(i+n))
    case measure=>omega
    case rel =>
     refine ⟨i+n,by omega,HW.2,HW.1,fun j b hj hb=>?_⟩;rcases Wr j i with g | g
     ·exact HN.out.1 j b g hb
     ·have hjs:j<s.size:=by omega
      have:=H5.out j hjs g hj;have hb2:=Lib.data_getElem? s j hjs;rw[hb]at hb2;have hb3:b=s[j]'hjs:=Option.some.inj hb2;rw[V7,hb3];have h47:s[j]'hjs≠47:=fun e=>by rw[e]at this;revert this;decide
      have h00:s[j]'hjs≠0:=fun e=>by rw[e]at this;revert this;decide
      simp[bad,h47,h00]
end
section
open Go.RowKit Go.Shelf
theorem GK (w:World):(zeroValue 234).run Tryz.prog w = .ok (.agg (Array.replicate 256 (.bool false))) w:=by kernel_rfl
theorem VX:∀ l:Lz,decide (0<=Lib.indexAny l [47,0])=l.any bad
 | []=>rfl
 | b :: l=>by
  have ih:=VX l;have hg:=Lib.indexAny_ge [47,0] l;unfold Lib.indexAny;rw[V7,A7];cases hb:bad b with
  | true=>simp
  | false =>
   simp only[WN,W2,O4,←ih];split
   ·rename_i h;have:=Oj.1 h
    first | rw[this];done | (rw[this];rfl)
   ·rename_i h;have h':Lib.indexAny l [47,0]≠-1:=by simpa using h
    rw[Bb];omega
theorem xN (l:Lz) (hl:l.length<=1000000):Fun Tryz.prog G0 167 [.str l,.str [47,0]] (.sc (.int .i64 (Lib.indexAny l [47,0]))) 0:=by
 refine Fun.wrap (by kernel_rfl) fun R vs h=>?_;obtain ⟨v1,us1,rfl,h1,h⟩:=zh.1 h;obtain ⟨v2,us2,rfl,h2,h⟩:=zh.1 h;rw[zl]at h;subst h;rw[zY]at h1 h2;subst h1 h2;have hsz:(ByteArray.mk l.toArray).size=l.length:=by simp[ByteArray.size]
 by_cases h8:l.length<=8
 ·refine (HU ⟨l.toArray⟩ R.w (by omega)).mono ?_;rintro e w' ⟨rfl,hb⟩;exact ⟨_,rfl,hb,fun R' _=>zq.2 (by simp)⟩
 ·refine (Tryz.strings_IndexAny_long GK ⟨l.toArray⟩ ⟨#[47,0]⟩ R.w (by decide) (by omega) (by omega) (by decide) ?_).mono ?_
  ·intro j b hb;have:b=47∨b=0:=by
    have:=Wf hb;simpa using this
   rcases this with rfl | rfl<;>decide
  ·rintro e w' ⟨rfl,rfl⟩;exact ⟨_,rfl,((W3 _ _).alloc (Wb _) _).alloc (by simp) _,fun R' _=>zq.2 (by simp)⟩
theorem Yz (l:Lz) (hl:l.length<=1000000):Fun Tryz.prog G0 120 [.str l,.str [47,0]] (qM (l.any bad)) 0:=by
 have h:=VX l;refine fon Tryz.func120 ?_;dsimp only[Tryz.f120];push_cast;refine call (xN l hl) ?_;push_cast;exact dn (by push_cast [ze,zd,CLe,zf,h])
def may (l:Lz):Bool:=!decide (l = [])&&decide (l.length<=255)&&!l.any bad&&!decide (l = [46])&&!decide (l = [46,46])
theorem v8 (l:Lz) (hl:l.length<=1000000):Fun Tryz.prog G0 70 [.str l] (qM (may l)) 0:=by
 by_cases h1:l = []
 ·refine fon Tryz.func70 ?_;dsimp only[Tryz.f70];push_cast [h1];exact ⟨[],rfl,rfl,by push_cast [ze,zd,CLe,zf];simp[may]⟩
 ·by_cases h2:l.length<=255
  ·have h2':(l.length:Int)<=255:=by omega
   cases h3:l.any bad with
   | true =>
    refine fon Tryz.func70 ?_;dsimp only[Tryz.f70];push_cast [h1,h2'];refine call (Yz l hl) ?_;push_cast [h3];exact ⟨[],rfl,rfl,by push_cast [ze,zd,CLe,zf];simp[may,h3]⟩
   | false =>
    by_cases h4:l = [46]
    ·subst h4;refine fon Tryz.func70 ?_;dsimp only[Tryz.f70];push_cast [h2'];refine call (Yz _ hl) ?_;push_cast [h3];exact ⟨[],rfl,rfl,by push_cast [ze,zd,CLe,zf];simp[may]⟩
    ·refine fon Tryz.func70 ?_;dsimp only[Tryz.f70];push_cast [h1,h2'];refine call (Yz l hl) ?_;push_cast [h3,h4];exact ⟨[],rfl,rfl,by push_cast [ze,zd,CLe,zf];simp[may,h1,h2,h3,h4]⟩
  ·have h2':¬(l.length:Int)<=255:=by omega
   refine fon Tryz.func70 ?_;dsimp only[Tryz.f70];push_cast [h1,h2'];exact ⟨[],rfl,rfl,by push_cast [ze,zd,CLe,zf];simp[may,h2]⟩
theorem zbS (l:Lz) (hl:l.length<=1000000):Fun Tryz.prog G0 254 [.str l] (qM (!may l)) 0:=by
 refine fon Tryz.func254 ?_;dsimp only[Tryz.f254];push_cast;refine call (v8 l hl) ?_;push_cast;exact dn
end
section
open Go.RowKit
def zgU (xs:List Lz):Int:=match xs.findIdx? (fun x=>!may x) with | some i=>(i:Int) | none=>-1
theorem zjD (xs:List Lz):decide (0<=zgU xs) = !xs.all may:=by
 unfold zgU;cases h:xs.findIdx? (fun x=>!may x) with
 | none =>
  have:=List.findIdx?_eq_none_iff.1 h;have h2:xs.all may=true:=WC.2 fun x hx=>by simpa using this x hx
  rw[h2];rfl
 | some i =>
  have h1:=List.findIdx?_eq_some_iff_getElem.1 h;obtain ⟨hi,hp,_⟩:=h1;have h2:xs.all may=false:=List.all_eq_false.2 ⟨xs[i],Wx hi,by simpa using hp⟩;rw[h2];simp
theorem NY (xs:List Lz) (hx:xs.length<=1000001) (hl:∀ x∈xs,x.length<=1000000):Fun Tryz.prog G0 276 [.sl 1 (zF xs),.clo (.func 254) [] []] (.sc (.int .i64 (zgU xs))) 0:=by
 refine fon Tryz.func276 ?_;dsimp only[Tryz.f276];push_cast;refine loop (fun k:Nat=>⟨[(0,.sl 1 (zF xs)),(1,.clo (.func 254) [] []),(7,.sc (.int .i64 (xs.length:Int))),(8,.sc (.int .i64 k))],[],0,0⟩) (fun k=>k<=xs.length/\∀ j (hj:j<xs.length),j<k->may (xs[j]'hj)=true) (fun k=>xs.length-k) 0 ⟨Wc _,fun j _ hj=>by omega⟩ ?_ ?_
 ·exact wk
 ·intro k hk;have hk1:=hk.1;have hk2:=hk.2;by_cases h:k<xs.length
  ·have hg:(zF xs)[k]?=some [.str (xs[k]'h)]:=by rw[strs_get?,Wa h];rfl
   push_cast [h,hg];refine ⟨by omega,?_⟩;refine call (zbS (xs[k]'h) (hl _ (Wx h))) ?_;push_cast;cases hm:may (xs[k]'h) with
   | true =>
    push_cast;refine ⟨by omega,k+1,⟨by omega,fun j hj hjk=>?_⟩,by omega,wk⟩;rcases Wr j k with g | g
    ·exact hk2 j hj g
    ·have:j=k:=by omega
     subst this;exact hm
   | false =>
    push_cast;refine ⟨[],rfl,rfl,?_⟩;push_cast [ze,zd,CLe,zf];have:xs.findIdx? (fun x=>!may x)=some k:=List.findIdx?_eq_some_iff_getElem.2 ⟨h,by simp[hm],fun j hj=>by simp[hk2 j (by omega) hj]⟩;simp[zgU,this]
  ·push_cast [h];refine ⟨[],rfl,rfl,?_⟩;push_cast [ze,zd,CLe,zf];have:xs.findIdx? (fun x=>!may x)=none:=List.findIdx?_eq_none_iff.2 fun x hx=>by
    obtain ⟨j,hj,rfl⟩:=WF hx;simp[hk2 j hj (by omega)]
   simp[zgU,this]
theorem Uo (xs:List Lz) (hx:xs.length<=1000001) (hl:∀ x∈xs,x.length<=1000000):Fun Tryz.prog G0 253 [.sl 1 (zF xs),.clo (.func 254) [] []] (qM (!xs.all may)) 0:=by
 have h:=zjD xs;refine fon Tryz.func253 ?_;dsimp only[Tryz.f253];push_cast;refine call (NY xs hx hl) ?_;push_cast;exact dn (by push_cast [ze,zd,CLe,zf,h])
def Yh (p:Lz):Bool:=decide (qS (zm p)=p)&&(zm p).all may
def YN (p:Lz):C:=.tup [.own 0 9 1 (zF (if Yh p then zm p else [])),qM (Yh p)]
theorem Ji (x y:Lz) (r:List Lz) (sep:Lz):Lib.join (x :: y :: r) sep=x++sep++Lib.join (y :: r) sep:=by
 simp[Lib.join,List.intercalate,List.intersperse]
theorem QC:∀ xs:List Lz,xs≠[]->(Lib.join xs [47]).length+1=(xs.map fun x=>x.length+1).sum
 | [],h=>absurd rfl h
 | [x],_=>by simp[Lib.join]
 | x :: y :: r,_=>by
  have ih:=QC (y :: r) (by simp);rw[Ji];simp only[Wj,Wg,Wz,Wm,OX]at ih ⊢;omega
theorem zg5:∀ l:Lz,((Ja l).map fun x=>x.length+1).sum=l.length+1
 | []=>rfl
 | b :: l=>by
  have ih:=zg5 l;unfold Ja;split
  ·simp only[Wm,OX,Wz,Wg,ih];omega
  ·cases h:Ja l with
   | nil=>exact absurd h (GI l)
   | cons x r =>
    rw[h]at ih;simp only[Wm,OX,Wg]at ih ⊢;omega
theorem GL (f:Lz->Bool):∀ xs:List Lz,((xs.filter f).map fun x=>x.length+1).sum<=(xs.map fun x=>x.length+1).sum
 | []=>by simp
 | x :: r=>by
  have ih:=GL f r;rw[Ab];split
  ·simp only[Wm,OX];omega
  ·simp only[Wm,OX];omega
theorem zee:∀ (xs:List Lz) (x:Lz),x∈xs->x.length+1<=(xs.map fun x=>x.length+1).sum
 | y :: r,x,h=>by
  simp only[Wm,OX];rcases WK.1 h with rfl | h
  ·omega
  ·have:=zee r x h;omega
theorem Qb (l:Lz):(Lib.join (zm l) [47]).length<=l.length/\∀ x∈zm l,x.length<=l.length:=by
 have h1:=zg5 l;have h2:=GL (fun x=>!decide (x = [])) (Ja l);rw[←JK]at h2;refine ⟨?_,fun x hx=>?_⟩
 ·by_cases h:zm l = []
  ·rw[h];simp[Lib.join]
  ·have:=QC (zm l) h;omega
 ·have:=zee (zm l) x hx;omega
theorem xn (p:Lz) (hp:p.length<=1000000):Fun Tryz.prog G0 223 [.str p] (YN p) 1:=by
 have hz:=qx p;have hj:=Qb p;by_cases h1:qS (zm p)=p
 ·have h1':(p=qS (zm p)):=h1.symm;refine fon Tryz.func223 ?_;dsimp only[Tryz.f223];push_cast;refine call (Yl p) ?_;push_cast;refine call (Qx p hp) ?_;push_cast;refine call (Qf (zm p) (by omega) (by omega)) ?_;push_cast [h1];refine call (Uo (zm p) (by omega) fun x hx=>by have:=hj.2 x hx;omega) ?_;push_cast;cases hm:(zm p).all may with
  | true =>
   push_cast;exact ⟨[.inl 0],rfl,rfl,by simp only[YN,Yh,h1,hm];push_cast [ze,zd,CLe,zf]<;>simp⟩
  | false =>
   push_cast;exact ⟨[.inr (9,1)],rfl,rfl,by simp only[YN,Yh,h1,hm];push_cast [ze,zd,CLe,zf]<;>simp⟩
 ·refine fon Tryz.func223 ?_;dsimp only[Tryz.f223];push_cast;refine call (Yl p) ?_;push_cast;refine call (Qx p hp) ?_;push_cast;refine call (Qf (zm p) (by omega) (by omega)) ?_;push_cast [h1];exact ⟨[.inr (9,1)],rfl,rfl,by simp only[YN,Yh,h1];push_cast [ze,zd,CLe,zf]<;>simp⟩
end
section
open Go.RowKit
theorem zlh (l:Lz) (b:UInt8) (h:l[0]?=some b):Lib.hasPrefix l [47]=decide ((b.toNat:Int)=47):=by
 cases l with
 | nil=>simp at h
 | cons x r =>
  simp at h;subst h;unfold Lib.hasPrefix;by_cases h:x=47
  ·subst h;rfl
  ·have h2:¬((x.toNat:Int)=47):=xX h;have h3:¬(47=x):=fun e=>h e.symm;simp[List.isPrefixOf,h2,h3]
theorem zli (l:Lz) (b:UInt8) (h:l[l.length-1]?=some b):Lib.hasSuffix l [47]=decide ((b.toNat:Int)=47):=by
 have hne:l≠[]:=fun e=>by subst e;simp at h
 have hl:l=l.take (l.length-1)++[b]:=by
  have hlt:l.length-1<l.length:=by have:=WE.2 hne;omega
  have:=Og (l.length-1) l;rw[Oe hlt]at this;rw[Wa hlt]at h;cases h;rw[AE (by omega)]at this;exact this.symm
 rw[hl];unfold Lib.hasSuffix;by_cases h:b=47
 ·subst h;have:([47]:Lz) <:+ l.take (l.length-1)++[47]:=List.suffix_append _ _;rw[List.isSuffixOf_iff_suffix.2 this];rfl
 ·have h2:¬((b.toNat:Int)=47):=xX h;have h3:¬([47]:Lz) <:+ l.take (l.length-1)++[b]:=fun ⟨t,ht⟩=>by
   have:=List.append_inj_right' ht rfl;simp at this;exact h this.symm
  have h4:([47]:Lz).isSuffixOf (l.take (l.length-1)++[b])=false:=by
   rw[Or];exact fun e=>h3 (List.isSuffixOf_iff_suffix.1 e)
  rw[h4];simp[h2]
theorem zgn:zm [] = []:=rfl
theorem kY (p:Lz) (hp:p.length<=100000):Fun Tryz.prog G0 78 [.str p] (HM p) 1:=by
 have hn:=ZS p (by omega);have hs:=qx p;by_cases hp0:p = []
 ·subst hp0;have h0:=zgn;refine fon Tryz.func78 ?_;dsimp only[Tryz.f78];push_cast;refine call hn ?_;push_cast [h0];exact ⟨[.inl 0],rfl,rfl,by simp only[HM];push_cast [ze,zd,CLe,zf,h0]<;>exact ⟨rfl,rfl⟩⟩
 ·have hl:0<p.length:=WE.2 hp0;obtain ⟨b,hb⟩:∃ b,p[0]?=some b:=⟨_,Wa hl⟩;have hpb:=zlh p b hb;by_cases h0:zm p = []
  ·refine fon Tryz.func78 ?_;dsimp only[Tryz.f78];push_cast;refine call hn ?_;push_cast [h0,hl,hb];exact ⟨[.inl 0],rfl,rfl,by simp only[HM];push_cast [ze,zd,CLe,zf,h0,hpb]<;>simp⟩
  ·have hlen:0<(zm p).length:=WE.2 h0;obtain ⟨c,hc⟩:∃ c,p[p.length-1]?=some c:=⟨_,Wa (by omega)⟩;have hsf:=zli p c hc;have hidx:((p.length:Int)-1).toNat=p.length-1:=by omega
   refine fon Tryz.func78 ?_;dsimp only[Tryz.f78];push_cast;refine call hn ?_;push_cast [hlen,hl,hb,hidx,hc];refine ⟨by omega,by omega,[.inl 0],rfl,rfl,by simp only[HM];push_cast [ze,zd,CLe,zf,h0,hpb,hsf]<;>simp⟩
theorem x7 (xs:List Lz) (k:Nat) (x:Lz) (h:xs[k]?=some x):Lib.join (xs.take (k+1)) [47]=(if k=0 then x else Lib.join (xs.take k) [47]++[47]++x):=by
 cases xs with
 | nil=>simp at h
 | cons y r =>
  cases k with
  | zero=>simp at h;subst h;simp[Lib.join_one]
  | succ k =>
   simp only[AH,Nat.succ_ne_zero,W2];rw[Lib.join_cons,Lib.join_cons,Lib.joinTail_take_succ _ _ _ x (by simpa using h)];simp[WT]
theorem zoq (xs:List Lz) (k:Nat):(Lib.join (xs.take k) [47]).length<=(Lib.join xs [47]).length:=by
 by_cases h:xs.take k = []
 ·rw[h];simp[Lib.join]
 ·have h1:=QC (xs.take k) h;have hx:xs≠[]:=fun e=>h (by rw[e];simp);have h2:=QC xs hx;have h3:((xs.take k).map fun x=>x.length+1).sum<=(xs.map fun x=>x.length+1).sum:=by
   conv=>rhs;rw[←Og k xs,W9,BM]
   omega
  omega
theorem zca (xs:List Lz) (k:Nat) (x:Lz) (h:xs[k]?=some x):(if xs.take (k+1) = [] then [] else qS (xs.take (k+1)))=(if xs.take k = [] then [] else qS (xs.take k))++[47]++x:=by
 have hk:k<xs.length:=(Wd.1 h).1;have h1:xs.take (k+1)≠[]:=fun e=>by have:=WA List.length e;rw[W6]at this;simp only[Wz]at this;omega
 rw[if_neg h1];unfold qS;rw[if_neg h1,x7 xs k x h];by_cases hk0:k=0
 ·subst hk0;simp
 ·have h2:xs.take k≠[]:=fun e=>by have:=WA List.length e;rw[W6]at this;simp only[Wz]at this;omega
  simp[h2,hk0]
def jst (xs:List Lz) (k:Nat):Lz:=if xs.take k = [] then [] else qS (xs.take k)
theorem zgk (xs:List Lz) (k:Nat):(jst xs k).length<=(Lib.join xs [47]).length+1:=by
 unfold jst;split
 ·simp
 ·rename_i h;have:=zoq xs k;unfold qS;rw[if_neg h];simp;omega
theorem yI (xs:List Lz) (hx:xs.length<=2000001) (hl:(Lib.join xs [47]).length<=100000000):Fun Tryz.prog G0 64 [.sl 1 (zF xs)] (.str (qS xs)) 0:=by
 by_cases h0:xs = []
 ·subst h0;refine fon Tryz.func64 ?_;dsimp only[Tryz.f64];push_cast;exact ⟨[],rfl,rfl,by push_cast [ze,zd,CLe,zf]<;>simp[qS]⟩
 ·have h0':¬((xs.length:Int)=0):=by have:=WE.2 h0;omega
  refine fon Tryz.func64 ?_;dsimp only[Tryz.f64];push_cast [h0'];refine loop (fun k:Nat=>⟨[(0,.sl 1 (zF xs)),(3,.str (jst xs k)),(4,.sc (.int .i64 k))],[],0,0⟩) (fun k=>k<=xs.length) (fun k=>xs.length-k) 0 (Wc _) ?_ ?_
  ·exact JM.mk [] rfl rfl (Wc _) rfl (by push_cast [ze,zd,CLe,zf]<;>simp[jst]) (by push_cast [ze,zd,CLe,zf])
  ·intro k hk;by_cases h:k<xs.length
   ·have hg:=Ze xs k h;have hst:jst xs (k+1)=jst xs k++[47]++xs[k]'h:=zca xs k (xs[k]'h) (Wa h);have hjk:=zgk xs k;have hjl:=zgk xs (k+1);rw[hst]at hjl;simp only[Wj,Wg,Wz]at hjl;push_cast [h,hg]
    repeat refine an ?_
    refine ⟨k+1,by omega,by omega,JM.mk [] rfl rfl (Wc _) rfl ?_ (by push_cast [ze,zd,CLe,zf])⟩;push_cast [ze,zd,CLe,zf];simp[hst]
   ·have hkl:k=xs.length:=by omega
    push_cast [h];exact ⟨[],rfl,rfl,by push_cast [ze,zd,CLe,zf]<;>simp[jst,hkl,h0]⟩
theorem Gd (l:Lz) (hl:l.length<=2000000):Fun Tryz.prog G0 63 [.str l] (qM (may l)) 0:=by
 refine fon Tryz.func63 ?_;dsimp only[Tryz.f63];push_cast;refine loop (fun k:Nat=>⟨[(0,.str l),(3,.sc (.int .i64 k))],[],0,0⟩) (fun k=>k<=l.length/\∀ j (hj:j<l.length),j<k->bad (l[j]'hj)=false) (fun k=>l.length-k) 0 ⟨Wc _,fun j _ hj=>by omega⟩ ?_ ?_
 ·exact wk
 ·intro k hk;have hk1:=hk.1;have hk2:=hk.2;by_cases h:k<l.length
  ·have hb:l[k]?=some (l[k]'h):=Wa h;have hbad:bad (l[k]'h)=true->may l=false:=fun hb=>by
    have:l.any bad=true:=OA.2 ⟨l[k]'h,Wx h,hb⟩;simp[may,this]
   by_cases h47:l[k]'h=47
   ·have h1:(((l[k]'h).toNat:Int)=47):=by rw[h47];rfl
    push_cast [h,hb,h1];refine ⟨by omega,[],rfl,rfl,?_⟩;push_cast [ze,zd,CLe,zf];rw[hbad (by simp[bad,h47])]
   ·have h1:¬(((l[k]'h).toNat:Int)=47):=xX h47;by_cases h00:l[k]'h=0
    ·have h2:(((l[k]'h).toNat:Int)=0):=by rw[h00];rfl
     push_cast [h,hb,h1,h2];refine ⟨by omega,by omega,[],rfl,rfl,?_⟩;push_cast [ze,zd,CLe,zf];rw[hbad (by simp[bad,h00])]
    ·have h2:¬(((l[k]'h).toNat:Int)=0):=xX h00;push_cast [h,hb,h1,h2]
     repeat refine an ?_
     refine ⟨k+1,⟨by omega,fun j hj hjk=>?_⟩,by omega,wk⟩;rcases Wr j k with g | g
     ·exact hk2 j hj g
     ·have:j=k:=by omega
      subst this;simp[bad,h47,h00]
  ·have hany:l.any bad=false:=Om.2 fun x hx=>by
    obtain ⟨j,hj,rfl⟩:=WF hx;simp[hk2 j hj (by omega)]
   obtain rfl:k=l.length:=by omega
   by_cases h0:l = []
   ·subst h0;push_cast;exact ⟨[],rfl,rfl,by push_cast [ze,zd,CLe,zf]<;>simp[may]⟩
   ·have h1:(1:Int)<=(l.length:Int):=by have:=WE.2 h0;omega
    by_cases h2:(l.length:Int)<=255
    ·have h2':l.length<=255:=by omega
     by_cases h4:l = [46]
     ·subst h4;push_cast;exact ⟨[],rfl,rfl,by push_cast [ze,zd,CLe,zf]<;>simp[may]⟩
     ·by_cases h5:l = [46,46]
      ·subst h5;push_cast [h4];exact ⟨[],rfl,rfl,by push_cast [ze,zd,CLe,zf]<;>simp[may]⟩
      ·push_cast [h,h1,h2,h4,h5];exact ⟨[],rfl,rfl,by push_cast [ze,zd,CLe,zf]<;>simp[may,h0,h2',hany,h4,h5]⟩
    ·have h2':¬l.length<=255:=by omega
     push_cast [h,h1,h2];exact ⟨[],rfl,rfl,by push_cast [ze,zd,CLe,zf]<;>simp[may,h2']⟩
theorem U9 (p:Lz) (hp:p.length<=100000):Fun Tryz.prog G0 77 [.str p] (qM (X3 p)) 0:=by
 have hn:=ZS p (by omega);refine fon Tryz.func77 ?_;dsimp only[Tryz.f77];push_cast;refine call hn ?_;push_cast;refine loop (fun k:Nat=>⟨[(0,.str p),(3,.own 0 9 1 (zF (zm p))),(4,.sc (.int .i64 k))],[],1,0⟩) (fun k=>k<=(zm p).length/\∀ j (hj:j<(zm p).length),j<k->((zm p)[j]'hj).length<=255) (fun k=>(zm p).length-k) 0 ⟨Wc _,fun j _ hj=>by omega⟩ ?_ ?_
 ·exact wks [.inl 0]
 ·intro k hk;have hk1:=hk.1;have hk2:=hk.2;have hs:=qx p;by_cases h:k<(zm p).length
  ·have hg:=Ze (zm p) k h;by_cases h2:((zm p)[k]'h).length<=255
   ·have h2':¬(255:Int)<(((zm p)[k]'h).length:Int):=by omega
    push_cast [h,hg,h2']
    repeat refine an ?_
    refine ⟨k+1,⟨by omega,fun j hj hjk=>?_⟩,by omega,wks [.inl 0]⟩;rcases Wr j k with g | g
    ·exact hk2 j hj g
    ·have:j=k:=by omega
     subst this;exact h2
   ·have h2':(255:Int)<(((zm p)[k]'h).length:Int):=by omega
    push_cast [h,hg,h2'];refine ⟨by omega,[],rfl,rfl,?_⟩;push_cast [ze,zd,CLe,zf];have:(zm p).any (fun x=>decide (255<x.length))=true:=OA.2 ⟨(zm p)[k]'h,Wx h,by simp;omega⟩;simp[X3,this]
  ·have:(zm p).any (fun x=>decide (255<x.length))=false:=Om.2 fun x hx=>by
    obtain ⟨j,hj,rfl⟩:=WF hx;have:=hk2 j hj (by omega);simp;omega
   push_cast [h];refine ⟨[],rfl,rfl,?_⟩;push_cast [ze,zd,CLe,zf];simp[X3,this];omega
theorem kE (p:Lz) (hp:p.length<=100000) (hb:zm p = []->Lib.hasPrefix p [47] = !decide (p = [])):Fun Tryz.prog G0 50 [.str p] (.str (J7 p)) 0:=by
 have hn:=ZS p (by omega);have hs:=qx p;by_cases h:zm p = []
 ·by_cases h0:p = []
  ·subst h0;refine fon Tryz.func50 ?_;dsimp only[Tryz.f50];push_cast;refine call hn ?_;push_cast [h];exact ⟨[],rfl,rfl,by push_cast [ze,zd,CLe,zf]<;>rfl⟩
  ·have hb':=hb h;refine fon Tryz.func50 ?_;dsimp only[Tryz.f50];push_cast;refine call hn ?_;push_cast [h,h0];exact ⟨[],rfl,rfl,by push_cast [ze,zd,CLe,zf]<;>simp[J7,h,hb',h0]⟩
 ·have hl:0<(zm p).length:=WE.2 h;have hg:=Ze (zm p) ((zm p).length-1) (by omega);have hidx:(((zm p).length:Int)-1).toNat=(zm p).length-1:=by omega
  refine fon Tryz.func50 ?_;dsimp only[Tryz.f50];push_cast;refine call hn ?_;push_cast [hl,hidx,hg];refine ⟨by omega,by omega,[],rfl,rfl,?_⟩;push_cast [ze,zd,CLe,zf];unfold J7;rw[List.getLastD_eq_getLast?,List.getLast?_eq_getElem?,Wa (by omega)]
  rfl
theorem Uk (p:Lz) (hp:p.length<=2000000):Fun Tryz.prog G0 27 [.str p] (YN p) 1:=by
 have hn:=ZS p (by omega);have hs:=qx p;have hj:=Qb p;refine fon Tryz.func27 ?_;dsimp only[Tryz.f27];push_cast;refine call hn ?_;push_cast;refine loop (fun k:Nat=>⟨[(0,.str p),(4,.own 0 9 1 (zF (zm p))),(5,.sc (.int .i64 k))],[],1,0⟩) (fun k=>k<=(zm p).length/\∀ j (hj:j<(zm p).length),j<k->may ((zm p)[j]'hj)=true) (fun k=>(zm p).length-k) 0 ⟨Wc _,fun j _ hj=>by omega⟩ ?_ ?_
 ·exact wks [.inl 0]
 ·intro k hk;have hk1:=hk.1;have hk2:=hk.2;by_cases h:k<(zm p).length
  ·have hg:=Ze (zm p) k h;have hlen:=hj.2 ((zm p)[k]'h) (Wx h);push_cast [h,hg];refine ⟨by omega,?_⟩;refine call (Gd ((zm p)[k]'h) (by omega)) ?_;push_cast;cases hm:may ((zm p)[k]'h) with
   | true =>
    push_cast
    repeat refine an ?_
    refine ⟨k+1,⟨by omega,fun j hj hjk=>?_⟩,by omega,wks [.inl 0]⟩;rcases Wr j k with g | g
    ·exact hk2 j hj g
    ·have:j=k:=by omega
     subst this;exact hm
   | false =>
    have hall:(zm p).all may=false:=List.all_eq_false.2 ⟨(zm p)[k]'h,Wx h,by simp[hm]⟩;push_cast;exact ⟨[.inr (9,1)],rfl,rfl,by simp only[YN,Yh,hall];push_cast [ze,zd,CLe,zf]<;>simp⟩
  ·have hall:(zm p).all may=true:=WC.2 fun x hx=>by
    obtain ⟨j,hj,rfl⟩:=WF hx;exact hk2 j hj (by omega)
   push_cast [h];refine call (yI (zm p) (by omega) (by omega)) ?_;push_cast;by_cases h1:qS (zm p)=p
   ·push_cast [h1];exact ⟨[.inl 0],rfl,rfl,by simp only[YN,Yh,h1,hall];push_cast [ze,zd,CLe,zf]<;>simp⟩
   ·push_cast [h1];exact ⟨[.inr (9,1)],rfl,rfl,by simp only[YN,Yh,h1];push_cast [ze,zd,CLe,zf]<;>simp⟩
end
section
open Go.RowKit
def ku (x:Lz):Prop:=x≠[]/\(47:UInt8)∉x
theorem zd0:∀ a t:Lz,Ja (a++47 :: t)=Ja a++Ja t
 | [],t=>by
  have:Ja (47 :: t) = [] :: Ja t:=rfl;exact this
 | b :: a,t=>by
  have ih:=zd0 a t;have e1:Ja (b :: (a++47 :: t))=if b=47 then [] :: Ja (a++47 :: t) else match Ja (a++47 :: t) with
   | []=>[[b]]
   | x :: r=>(b :: x) :: r:=rfl
  have e2:Ja (b :: a)=if b=47 then [] :: Ja a else match Ja a with
   | []=>[[b]]
   | x :: r=>(b :: x) :: r:=rfl
  rw[Oh,e1,e2,ih];by_cases hb:b=47
  ·simp[hb]
  ·rw[if_neg hb,if_neg hb];have hne:=GI a;cases hs:Ja a with
   | nil=>exact absurd hs hne
   | cons x r=>simp
theorem zgI:∀ x:Lz,(47:UInt8)∉x->Ja x = [x]
 | [],_=>rfl
 | b :: x,h=>by
  have hb:¬(b=47):=fun e=>h (by rw[e];exact Wk);have ih:=zgI x (fun hx=>h (Wl _ hx));unfold Ja;rw[if_neg hb,ih]
theorem zhn:∀ (l x:Lz),x∈Ja l->(47:UInt8)∉x
 | [],x,h=>by simp[Ja]at h;subst h;simp
 | b :: l,x,h=>by
  have ih:=zhn l;unfold Ja at h;by_cases hb:b=47
  ·rw[if_pos hb]at h;rcases WK.1 h with rfl | h
   ·simp
   ·exact ih x h
  ·rw[if_neg hb]at h;have hne:=GI l;cases hs:Ja l with
   | nil=>exact absurd hs hne
   | cons y r =>
    rw[hs]at h ih;simp only at h;rcases WK.1 h with rfl | h
    ·intro hm;rcases WK.1 hm with e | hm
     ·exact hb e.symm
     ·exact ih y Wk hm
    ·exact ih x (Wl _ h)
theorem xy {l x:Lz} (h:x∈zm l):ku x:=by
 rw[JK,OC]at h;exact ⟨by simpa using h.2,zhn l x h.1⟩
theorem kx (a t:Lz):zm (a++47 :: t)=zm a++zm t:=by
 rw[JK,JK,JK,zd0,OW]
theorem MT {x:Lz} (h:ku x):zm x = [x]:=by
 rw[JK,zgI x h.2];simp[h.1]
theorem uc (l:Lz):zm (47 :: l)=zm l:=kx [] l
theorem GB:∀ xs:List Lz,(∀ x∈xs,ku x)->zm (Lib.join xs [47])=xs
 | [],_=>rfl
 | [x],h=>by rw[Lib.join_one];exact MT (h x Wk)
 | x :: y :: r,h=>by
  have ih:=GB (y :: r) fun z hz=>h z (Wl _ hz);rw[Ji,WT];show zm (x++47 :: Lib.join (y :: r) [47])=_;rw[kx,ih,MT (h x Wk)]
  rfl
theorem Zj (xs:List Lz) (h:∀ x∈xs,ku x):zm (qS xs)=xs:=by
 unfold qS;by_cases hx:xs = []
 ·rw[if_pos hx,hx];rfl
 ·rw[if_neg hx,uc,GB xs h]
theorem zh4 (b:UInt8) (l:Lz):Lib.hasPrefix (b :: l) [47]=decide (b=47):=by
 have:=zlh (b :: l) b rfl;rw[this];by_cases h:b=47
 ·subst h;rfl
 ·have h2:¬((b.toNat:Int)=47):=xX h;simp[h,h2]
theorem zk3 (l:Lz) (b:UInt8):Lib.hasSuffix (l++[b]) [47]=decide (b=47):=by
 have:=zli (l++[b]) b (by simp);rw[this];by_cases h:b=47
 ·subst h;rfl
 ·have h2:¬((b.toNat:Int)=47):=xX h;simp[h,h2]
theorem zb7 (p:Lz) (h:zm p = []):Lib.hasPrefix p [47] = !decide (p = []):=by
 cases p with
 | nil=>rfl
 | cons b l =>
  rw[zh4];by_cases hb:b=47
  ·simp[hb]
  ·exfalso
   rw[JK]at h;have hne:=GI l;have:∃ x r,Ja (b :: l)=(b :: x) :: r:=by
    unfold Ja;rw[if_neg hb];cases hs:Ja l with
    | nil=>exact absurd hs hne
    | cons x r=>exact ⟨x,r,rfl⟩
   obtain ⟨x,r,e⟩:=this;rw[e]at h;simp at h
theorem Ux {x:Lz} (h:may x=true):ku x:=by
 simp only[may,Wt,Ar,Ow]at h;refine ⟨h.1.1.1.1,fun hm=>?_⟩;have:=Om.1 h.1.1.2 47 hm;exact this (by decide)
theorem zdU (xs zs:List Lz) (hx:xs≠[]) (hz:zs≠[]):qS (xs++zs)=qS xs++47 :: Lib.join zs [47]:=by
 unfold qS;rw[if_neg hx,if_neg (by simp[hx])];simp only[Oh,List.cons.injEq,true_and]
 induction xs with
 | nil=>exact absurd rfl hx
 | cons x r ih =>
  cases r with
  | nil =>
   cases zs with
   | nil=>exact absurd rfl hz
   | cons z zs=>simp only[Oh,OB];rw[Ji,Lib.join_one];simp
  | cons y r =>
   have:=ih (by simp);simp only[Oh]at this ⊢;rw[Ji,Ji,this];simp
theorem vW (xs ys:List Lz) (hx:∀ x∈xs,ku x) (hy:∀ y∈ys,ku y):Q8 (qS xs) (qS ys)=decide (xs.take ys.length=ys):=by
 have nx:=Zj xs hx;have ny:=Zj ys hy;rw[Bool.eq_iff_iff];simp only[W8,Q8,Oc];constructor
 ·rintro ((h | h) | h)
  ·have:xs=ys:=by rw[←nx,←ny,h]
   rw[this,Of]
  ·have:ys = []:=by rw[←ny,h];rfl
   rw[this];rfl
  ·unfold Lib.hasPrefix at h;obtain ⟨t,ht⟩:=List.isPrefixOf_iff_prefix.1 h;have:xs=ys++zm t:=by
    rw[←nx,←ht,WT];show zm (qS ys++47 :: t)=_;rw[kx,ny]
   rw[this,By]
 ·intro h;have e:xs=ys++xs.drop ys.length:=by
   conv=>lhs;rw[←Og ys.length xs,h]
  by_cases hys:ys = []
  ·exact .inl (.inr (by rw[hys];rfl))
  ·by_cases hd:xs.drop ys.length = []
   ·refine .inl (.inl ?_);rw[hd,Oi]at e;rw[e]
   ·refine .inr ?_;rw[e,zdU _ _ hys hd];unfold Lib.hasPrefix;refine List.isPrefixOf_iff_prefix.2 ⟨Lib.join (xs.drop ys.length) [47],?_⟩;simp
theorem UM {p:Lz} (h:Yh p=true):qS (zm p)=p:=by
 unfold Yh at h;simp only[Wt,W8]at h;exact h.1
end
section
open Go.RowKit Go.ChangeMaps Go.ChangeShapes Go.WideShapes Go.Deep Go.Joins
theorem y4 (R:Env):XT G0 R:=fun g cs h=>by cases h
theorem V1:∀ {rows:List (List C)},(∀ r∈rows,∃ c,r = [c]/\∃ l:Lz,c = .str l/\l.length<=maxLen)->∃ xs:List Lz,rows=zF xs/\∀ x∈xs,x.length<=maxLen
 | [],_=>⟨[],rfl,fun x h=>by cases h⟩
 | r :: rows,h=>by
  obtain ⟨xs,rfl,hx⟩:=V1 fun r' hr=>h r' (Wl _ hr);obtain ⟨c,rfl,l,rfl,hl⟩:=h r Wk;exact ⟨l :: xs,rfl,fun x hx'=>(WK.1 hx').elim (fun e=>e▸hl) (hx x)⟩
section
variable {H:Type} {enc:TypeId×Value->H} {W:World}
theorem zjB:Opn enc Tryz.prog W 30 fun c=>∃ xs:List Lz,c = .sl 1 (zF xs)/\xs.length<=maxLen/\∀ x∈xs,x.length<=maxLen:=fun fuel cs x hx=>by
 obtain ⟨v,c,rfl,⟨rows,rfl,hl,hr⟩,h1,h2⟩:=Opn.slice (W:=W) (enc:=enc) Tryz.underlying30 (show Tryz.prog.cellsOf 9=1 by kernel_rfl) (Nat.zero_lt_one) (jI.one (Opn.str Tryz.underlying9)) fuel cs x hx;obtain ⟨xs,rfl,hx'⟩:=V1 hr;exact ⟨v,_,rfl,⟨xs,rfl,by simpa using hl,hx'⟩,h1,h2⟩
end
end
section
open Go.RowKit
mutual
/-- the cells that read as a datum of Yh data -/
def Vy:DataW Unit->Option (List Value)
 | .lit (.int k n)=>some [.int k n]
 | .lit (.bool b)=>some [.bool b]
 | .lit (.string l)=>some [.string ⟨l.toArray⟩]
 | .agg ds=>kh ds
 | _=>none
def kh:List (DataW Unit)->Option (List Value)
 | []=>some []
 | d :: ds=>match Vy d,kh ds with
  | some a,some b=>some (a++b)
  | _,_=>none
end
def yt (P:Program):Nat->List Field->Nat->Bool
 | j,[],n=>j==n
 | j,f :: fs,n=>f.offset==j&&yt P (j+P.cellsOf f.type) fs n
def kl (P:Program):Nat->TypeId->Bool
 | 0,_=>false
 | m+1,t=>match P.underlying t with
  | some .bool=>true
  | some (.int _)=>true
  | some .string=>true
  | some (.struct fs)=>yt P 0 fs.toList (P.cellsOf t)&&fs.toList.all fun f=>kl P m f.type
  | some (.array n e)=>kl P m e&&P.cellsOf t==n*P.cellsOf e
  | _=>false
section
variable {enc:TypeId×Value->Unit} {P:Program} {w:World} {base:Nat} {spare:Nat->Bool} {held:Bool}
theorem kf {d:DataW Unit} {ds:List (DataW Unit)} {a b:List Value} (h1:Vy d=some a) (h2:kh ds=some b):kh (d :: ds)=some (a++b):=by
 rw[kh,h1,h2]
theorem Va {n:Nat} {cs:List Value} (ih:∀ t cs d p,kl P n t=true->DataW.trod enc P w base spare held n t cs=some (d,p)->Vy d=some cs) {m:Nat} (hm:∀ t cs d p,kl P m t=true->DataW.trod enc P w base spare held n t cs=some (d,p)->Vy d=some cs) :
  ∀ (fs:List Field) (j N:Nat) (xs:List (DataW Unit×List MemPlace)),yt P j fs N=true->(fs.all fun f=>kl P m f.type)=true->cs.length=N->xs.length=fs.length ->
   (∀ (i:Nat) (f:Field),fs[i]?=some f->DataW.trod enc P w base spare held n f.type ((cs.drop f.offset).take (P.cellsOf f.type))=xs[i]?)->kh (xs.map (·.1))=some (cs.drop j)
 | [],j,N,xs,hc,_,hl,hx,_=>by
  simp only[yt,Oj]at hc
  match xs,hx with
  | [],_=>rw[OM (by omega)];rfl
 | f :: fs,j,N,xs,hc,ha,hl,hx,hf=>by
  simp only[yt,Wt,Oj]at hc;simp only[AX,Wt]at ha
  match xs,hx with
  | x :: xs,hx =>
   have h0:=hf 0 f rfl;have e0:Vy x.1=some ((cs.drop f.offset).take (P.cellsOf f.type)):=hm _ _ _ x.2 ha.1 h0;have e1:=Va ih hm fs _ N xs hc.2 ha.2 hl (by simpa using hx) fun i g hg=>hf (i+1) g hg;rw[Wm,kf e0 e1,hc.1,←AC,Og]
theorem V9 {n:Nat} {e:TypeId} {cs:List Value}:∀ (N j:Nat) (xs:List (DataW Unit×List MemPlace)),(∀ cs d p,DataW.trod enc P w base spare held n e cs=some (d,p)->Vy d=some cs)->cs.length=(j+N)*P.cellsOf e->xs.length=N ->
   (∀ (i:Nat),i<N->DataW.trod enc P w base spare held n e ((cs.drop ((j+i)*P.cellsOf e)).take (P.cellsOf e))=xs[i]?)->kh (xs.map (·.1))=some (cs.drop (j*P.cellsOf e))
 | 0,j,xs,_,hl,hx,_=>by
  match xs,hx with
  | [],_=>rw[OM (by simp at hl;omega)];rfl
 | N+1,j,xs,hm,hl,hx,hf=>by
  match xs,hx with
  | x :: xs,hx =>
   have e0:=hm _ _ x.2 (hf 0 (AZ _));have e1:=V9 N (j+1) xs hm (by rw[hl];congr 1;omega) (by simpa using hx) fun i hi=>by
    have:=hf (i+1) (by omega);rw[show j+(i+1)=j+1+i by omega]at this;exact this
   rw[Wm,kf e0 e1,Ag,show (j+1)*P.cellsOf e=j*P.cellsOf e+P.cellsOf e by rw[Oq];omega,←AC,Og]
theorem Qo:∀ (n m:Nat) (t:TypeId) (cs:List Value) (d:DataW Unit) (p:List MemPlace),kl P m t=true->DataW.trod enc P w base spare held n t cs=some (d,p)->Vy d=some cs
 | 0,m,t,cs,d,p,_,h=>by simp[DataW.trod]at h
 | n+1,0,t,cs,d,p,hf,h=>by simp[kl]at hf
 | n+1,m+1,t,cs,d,p,hf,h=>by
  unfold kl at hf;split at hf
  ·rename_i hu;obtain ⟨b,rfl,e⟩:=DataW.trod_bool hu h;cases e;rfl
  ·rename_i k hu;obtain ⟨b,rfl,e,_⟩:=DataW.trod_int hu h;cases e;rfl
  ·rename_i hu;obtain ⟨s,rfl,e,_⟩:=DataW.trod_string hu h;cases e;rw[Vy]
  ·rename_i fs hu;simp only[Wt]at hf;obtain ⟨xs,n',hn,e,hl,hx,hg⟩:=DataW.trod_struct hu h;cases hn;cases e;have hrec:∀ t cs d p,kl P m t=true->DataW.trod enc P w base spare held n t cs=some (d,p)->Vy d=some cs:=fun t cs d p=>Qo n m t cs d p;have:=Va (n:=n) (fun t cs d p=>Qo n n t cs d p) hrec fs.toList 0 _ xs hf.1 hf.2 hl (by rw[hx];rfl) fun i f hif=>hg i f (by simpa using hif);rw[AQ]at this;rw[Vy,this]
  ·rename_i N e hu;simp only[Wt,Oj]at hf;obtain ⟨xs,n',hn,e',hl,hx,hg⟩:=DataW.trod_array hu h;cases hn;cases e';have:=V9 (n:=n) (e:=e) (cs:=cs) N 0 xs (fun cs d p=>Qo n m e cs d p hf.1) (by rw[hl,hf.2,Ox]) hx fun i hi=>by rw[Ox];exact hg i hi
   rw[Nat.zero_mul,AQ]at this;rw[Vy,this]
  ·cases hf
end
theorem N6 {g:Nat}:∀ (vs:List Value) (o:Nat),(∀ (i:Nat) v,vs[i]?=some v->W.cell? ⟨g,o+i,none⟩=some v)->(vs.all fun v=>v.oneCell')=true->zN (xl W) (vs.map zC) g o:=fun vs o h ho=>by
 refine qi fun i c hc=>?_;rw[Ws,AB]at hc;obtain ⟨v,hv,rfl⟩:=hc;exact ⟨v,h i v hv,fun hf=>hf,jz _ _ v,WC.1 ho v (Wf hv)⟩
theorem NL {l:List (String×DataW Unit)} (h:laidMetH P l W) (hp:(l.filter fun x=>x.2.handleName?.isSome) = []) {n:String} {d:DataW Unit} (hm:(n,d)∈l) {g:Nat} {t:TypeId} {m:Nat} {vs:List Value}
  (hg:P.globalNamed n=some g) (ht:(P.globals[g]?).map (·.type)=some t) (hf:kl P m t=true) (hd:Vy d=some vs) (ho:(vs.all fun v=>v.oneCell')=true):zN (xl W) (vs.map zC) g 0:=by
 unfold laidMetH at h;rw[hp]at h;obtain ⟨g',t',cs,fuel,p,hg',ht',hvar,htr⟩:=Lib.laidMet.reads h hm;rw[hg]at hg';cases hg';rw[ht]at ht';cases ht';have e:=Qo _ _ _ _ _ _ hf htr;have e':vs=cs.toList:=Option.some.inj (hd.symm.trans e);subst e';refine N6 _ 0 (fun i v hv=>?_) ho;rw[World.var?_cell hg hvar,Ox];simpa using hv
theorem JH {l:List (String×DataW Unit)} (h:laidMetH P l W) (hp:(l.filter fun x=>x.2.handleName?.isSome) = []) {n:String} {d:DataW Unit} (hm:(n,d)∈l) {g:Nat} {t:TypeId} {m:Nat} {vs:List Value}
  (hg:P.globalNamed n=some g) (ht:(P.globals[g]?).map (·.type)=some t) (hf:kl P m t=true) (hd:Vy d=some vs) (ho:(vs.all fun v=>v.oneCell')=true) :
  zN (xl W) (vs.map zC) g 0/\(∃ us ty fl,(xl W).w.heap[g]?=some (.cells us ty fl)/\us.size=(vs.map zC).length)/\∀ o,¬(xl W).M g o:=by
 refine ⟨NL h hp hm hg ht hf hd ho,?_,fun o h=>h⟩;unfold laidMetH at h;rw[hp]at h;obtain ⟨g',t',cs,fuel,p,hg',ht',hvar,htr⟩:=Lib.laidMet.reads h hm;rw[hg]at hg';cases hg';rw[ht]at ht';cases ht';have e:=Qo _ _ _ _ _ _ hf htr;have e':vs=cs.toList:=Option.some.inj (hd.symm.trans e);subst e';unfold World.var? at hvar;rw[hg]at hvar;simp only[AN]at hvar;split at hvar
 ·rename_i cs' ty fl hh;cases hvar;exact ⟨_,_,_,hh,by simp⟩
 ·cases hvar
theorem Fun.glob {G':zp} {f:FuncId} {n:Nat} (h:Fun P G f args r n) (hG:∀ g cs,G g=some cs->G' g=some cs):Fun P G' f args r n:=
 ⟨h.1,fun R vs hg ha=>h.2 R vs (fun g cs e=>hg g cs (hG g cs e)) ha⟩
theorem Fun.glob0 {G':zp} {f:FuncId} {n:Nat} (h:Fun P G0 f args r n):Fun P G' f args r n:=h.glob fun g cs e=>by cases e
end
section
open CA CB
open Go.RowKit
def zoW:List Value:=[.bool false,.bool false,.bool false,.bool false,.bool false,.bool false,.bool false,.bool true,.bool false,.bool true,.bool true,.bool false,.bool false,.bool false,.bool true,.bool false,.bool true,.bool false,.bool false,.bool true,.bool false,.bool true,.bool false,.bool false,.bool false,.bool false,.bool false,.bool true,.bool false,.bool false,.bool true,.bool false,.bool false]
def G1:zp:=fun g=>if g=2 then some (zoW.map zC) else none
theorem zqX:G1 2=some [.sc (.bool false),.sc (.bool false),.sc (.bool false),.sc (.bool false),.sc (.bool false),.sc (.bool false),.sc (.bool false),.sc (.bool true),.sc (.bool false),.sc (.bool true),.sc (.bool true),.sc (.bool false),.sc (.bool false),.sc (.bool false),.sc (.bool true),.sc (.bool false),.sc (.bool true),.sc (.bool false),.sc (.bool false),.sc (.bool true),.sc (.bool false),.sc (.bool true),.sc (.bool false),.sc (.bool false),.sc (.bool false),.sc (.bool false),.sc (.bool false),.sc (.bool true),.sc (.bool false),.sc (.bool false),.sc (.bool true),.sc (.bool false),.sc (.bool false)]:=rfl
attribute [push_cast] zqX
def qO (p:Lz):Bool:=Yh p&&!decide (zm p = [])
theorem MY (p:Lz) (hp:p.length<=1000000):Fun Tryz.prog G0 183 [.str p] (qM (qO p)) 0:=by
 have h:=xn p hp;unfold YN at h;cases hb:Yh p with
 | false =>
  rw[hb]at h;refine fon Tryz.func183 ?_;dsimp only[Tryz.f183];push_cast;refine cl h ?_;push_cast;exact ⟨[],rfl,rfl,by push_cast [ze,zd,CLe,zf];simp[qO,hb]⟩
 | true =>
  rw[hb,if_pos rfl]at h;refine fon Tryz.func183 ?_;dsimp only[Tryz.f183];push_cast;refine cl h ?_;push_cast;refine ⟨[],rfl,rfl,?_⟩;push_cast [ze,zd,CLe,zf];by_cases hn:zm p = []
  ·simp[qO,hb,hn]
  ·have:=WE.2 hn;simp[qO,hb,hn,this]
theorem zbC (l:Lz):Fun Tryz.prog G0 177 [.str l,.str [0]] (.sc (.int .i64 (Lib.indexByte l 0))) 0:=by
 refine Fun.wrap (by kernel_rfl) fun R vs h=>?_;obtain ⟨v1,us1,rfl,h1,h⟩:=zh.1 h;obtain ⟨v2,us2,rfl,h2,h⟩:=zh.1 h;rw[zl]at h;subst h;rw[zY]at h1 h2;subst h1 h2;refine (Tryz.strings_Index_one ⟨l.toArray⟩ 0 R.w).mono ?_;rintro e w' ⟨rfl,rfl⟩;exact ⟨_,rfl,W3 _ _,fun R' _=>zq.2 (by simp)⟩
theorem HY:∀ l:Lz,decide (0<=Lib.indexByte l 0)=l.any (fun b=>decide (b=0))/\-1<=Lib.indexByte l 0
 | []=>⟨rfl,by decide⟩
 | b :: l=>by
  obtain ⟨h1,h2⟩:=HY l;unfold Lib.indexByte;by_cases hb:b=0
  ·subst hb;simp
  ·have hb':(b==0)=false:=by simpa using hb
   rw[hb'];simp only[WN,W2,A7,hb,decide_false,O4,←h1];split
   ·rename_i hm;have:=Oj.1 hm;rw[this];simp
   ·rename_i hm;have:¬Lib.indexByte l 0 = -1:=fun e=>hm (by rw[e];rfl);constructor
    ·rw[Bb];omega
    ·omega
theorem Ve (l:Lz) (hl:l.length<=1000000):Fun Tryz.prog G0 149 [.str l,.str [0]] (qM (l.any fun b=>decide (b=0))) 0:=by
 have h:=(HY l).1;refine fon Tryz.func149 ?_;dsimp only[Tryz.f149];push_cast;refine cl (zbC l) ?_;push_cast;exact dn (by push_cast [ze,zd,CLe,zf,h])
def Ql (s:Lz):Bool:=!decide (s = [])&&decide (s.length<=4095)&&!(s.any fun b=>decide (b=0))
theorem zcT (s:Lz) (hs:s.length<=1000000):Fun Tryz.prog G0 184 [.str s] (qM (Ql s)) 0:=by
 have h:=Ve s hs;by_cases h1:s = []
 ·refine fon Tryz.func184 ?_;dsimp only[Tryz.f184];push_cast [h1];exact ⟨[],rfl,rfl,by push_cast [ze,zd,CLe,zf];simp[Ql,h1]⟩
 ·by_cases h2:s.length<=4095
  ·have h2':(s.length:Int)<=4095:=by omega
   refine fon Tryz.func184 ?_;dsimp only[Tryz.f184];push_cast [h1,h2'];refine cl h ?_;push_cast;exact ⟨[],rfl,rfl,by push_cast [ze,zd,CLe,zf];simp[Ql,h1,h2]⟩
  ·have h2':¬(s.length:Int)<=4095:=by omega
   refine fon Tryz.func184 ?_;dsimp only[Tryz.f184];push_cast [h1,h2'];exact ⟨[],rfl,rfl,by push_cast [ze,zd,CLe,zf];simp[Ql,h1,h2]⟩
end
end Go.Proofs.YtaipngaejfndgaaGreatDoor.Vcg
section
namespace Go.Proofs.YtaipngaejfndgaaGreatDoor.QuotePlain
abbrev Bs:=Lz
def good (c:UInt8):Bool:=decide (32<=c.toNat/\c.toNat<=126/\c.toNat≠34/\c.toNat≠92)
def zlD:Bs:=[48,49,50,51,52,53,54,55,56,57,97,98,99,100,101,102]
def NS (n:Nat):UInt8:=zlD.getD n 0
def qb (c:UInt8):Bs:=if good c then [c] else [92,120,NS (c.toNat / 16),NS (c.toNat % 16)]
def mid (l:Bs):Bs:=l.flatMap qb
def qG (l:Bs):Bs:=34 :: (mid l++[34])
def zrn (l:Bs):Bool:=decide (l≠[])&&l.all fun c=>decide (33<=c.toNat/\c.toNat<=126/\c.toNat≠34)
def zoF (c:UInt8):Nat:=(zlD.findIdx? (·==c)).getD 16
def ziR:Bs->UInt8×Nat
 | []=>(0,0)
 | c :: r =>
  if c≠92 then (if good c then (c,1) else (0,0))
  else match r with
   | x :: a :: b :: _=>if x=120/\zoF a<16/\zoF b<16/\good (UInt8.ofNat (zoF a*16+zoF b))=false then (UInt8.ofNat (zoF a*16+zoF b),4) else (0,0)
   | _=>(0,0)
theorem zhF {p:UInt8->Bool} (h:(List.range 256).all (fun n=>p (UInt8.ofNat n))=true) (c:UInt8):p c=true:=by
 have h1:=WC.1 h c.toNat (List.mem_range.2 c.toNat_lt);simpa using h1
def zoV:Nat->Bs->Option (Bs×Nat)
 | 0,_=>none
 | _+1,[]=>none
 | f+1,c :: r=>if c=34 then some ([],1) else if (ziR (c :: r)).2=0 then none else (zoV f ((c :: r).drop (ziR (c :: r)).2)).map fun x=>((ziR (c :: r)).1 :: x.1,(ziR (c :: r)).2+x.2)
def body (l:Bs):Option (Bs×Nat):=zoV (l.length+1) l
def qtd:Bs->Option (Bs×Nat)
 | []=>none
 | c :: r=>if c=34 then (body r).map fun x=>(x.1,x.2+1) else none
def unq (l:Bs):Option Bs:=match qtd l with | some (t,n)=>if n=l.length then some t else none | none=>none
end Go.Proofs.YtaipngaejfndgaaGreatDoor.QuotePlain
end
section
namespace Go.Proofs.YtaipngaejfndgaaGreatDoor.QuotePlain
def okw (w:Bs):Bool:=(unq w).isSome||zrn w
def cut:Bs->Bs->Bool->Option (List Bs)
 | [],w,_=>if okw w then some [w] else none
 | c :: r,w,i=>if c=32/\i=false then (if okw w then (cut r [] i).map (w :: ·) else none) else cut r (w++[c]) (if c=34 then !i else i)
end Go.Proofs.YtaipngaejfndgaaGreatDoor.QuotePlain
end
section
namespace Go.Proofs.YtaipngaejfndgaaGreatDoor.QuotePlain
def F (q:List Bs):Bs:=q.flatMap (·++[32])
def bl (Q:List Bs) (n:Nat):Nat->Bs
 | 0=>[]
 | i+1=>((bl Q n i++(if i=n then [32] else []))++Q.getD i [])++(if i+1<Q.length∨n=Q.length then [32] else [])
end Go.Proofs.YtaipngaejfndgaaGreatDoor.QuotePlain
end
namespace Go.Proofs.YtaipngaejfndgaaGreatDoor.Vcg
variable {P:Program} {G:zp} {f:FsV} {args:List C} {r:C} {xs:List zn} {k N:Nat} {W:World} {l:List (Int×Int)} {x:zn} {n i:Int} {α κ:Type} {S:List Int}
section
structure OpV where
 kind:Int
 slot:Int
 a:Lz
 b:Lz
 d:Lz
deriving DecidableEq,Inhabited
def NQ (k:Int):Bool:=decide (k=3)||decide (k=7)||decide (k=9)||decide (k=10)
def zrG (k:Int):Bool:=decide (k=2)||decide (k=3)||decide (k=5)||decide (k=6)
end
section
open CA CB
open Go.RowKit
def opL (o:OpV):List C:=[.sc (.int .i64 o.kind),.sc (.int .i64 o.slot),.str o.a,.str o.b,.str o.d]
def Mo (o:OpV):Bool:=decide (1<=o.kind)&&decide (o.kind<=10)&&qO o.a&&(if NQ o.kind then decide (1<=o.slot)&&decide (o.slot<=1073741824) else decide (o.slot=0))&&(if zrG o.kind then qO o.b else decide (o.b = []))
 && (if o.kind=4 then Ql o.d else decide (o.d = []))&&(!decide (o.kind=6)||(!Q8 o.a o.b&&!Q8 o.b o.a))
def yu (o:OpV):Prop:=o.a.length<=1000000/\o.b.length<=1000000/\o.d.length<=1000000
theorem kG (k s:Int) (a b d:Lz) (hs:yu ⟨k,s,a,b,d⟩):Fun Tryz.prog G1 159 [.agg (opL ⟨k,s,a,b,d⟩)] (qM (Mo ⟨k,s,a,b,d⟩)) 0:=by
 have hs1:a.length<=1000000:=hs.1;have hs2:b.length<=1000000:=hs.2.1;have hs3:d.length<=1000000:=hs.2.2;have h1:=(MY a (by omega)).glob0 (G':=G1);have h2:=(MY b (by omega)).glob0 (G':=G1);have h3:=(zcT d (by omega)).glob0 (G':=G1);have h4:=(H3 a b (by omega)).glob0 (G':=G1);have h5:=(H3 b a (by omega)).glob0 (G':=G1);unfold opL;by_cases hk1:k<1
 ·have:¬1<=k:=by omega
  refine fon Tryz.func159 ?_;dsimp only[Tryz.f159];push_cast [hk1];exact ⟨[],rfl,rfl,by push_cast [ze,zd,CLe,zf];simp[Mo,this]⟩
 by_cases hk2:10<k
 ·have:¬k<=10:=by omega
  refine fon Tryz.func159 ?_;dsimp only[Tryz.f159];push_cast [hk1,hk2];exact ⟨[],rfl,rfl,by push_cast [ze,zd,CLe,zf];simp[Mo,this]⟩
 cases hp:qO a with
 | false =>
  rw[hp]at h1;refine fon Tryz.func159 ?_;dsimp only[Tryz.f159];push_cast [hk1,hk2];refine cl h1 ?_;push_cast;exact ⟨[],rfl,rfl,by push_cast [ze,zd,CLe,zf];simp[Mo,hp]⟩
 | true =>
  rw[hp]at h1;have hk:k=1∨k=2∨k=3∨k=4∨k=5∨k=6∨k=7∨k=8∨k=9∨k=10:=by omega
  clear hk1 hk2 hs hs1 hs2 hs3;rcases hk with rfl | rfl | rfl | rfl | rfl | rfl | rfl | rfl | rfl | rfl
  all_goals
   refine fon Tryz.func159 ?_;dsimp only[Tryz.f159];push_cast;refine cl h1 ?_;push_cast
   repeat' (first
    | (refine call h2 ?_;push_cast)
    | (refine zcq h2 ?_;push_cast)
    | (refine call h3 ?_;push_cast)
    | (refine zcq h3 ?_;push_cast)
    | (refine call h4 ?_;push_cast)
    | (refine zcq h4 ?_;push_cast)
    | (refine call h5 ?_;push_cast)
    | (refine zcq h5 ?_;push_cast)
    | (refine br (fun h=>?_) (fun h=>?_)<;>push_cast [h])
    | (refine ⟨[],rfl,rfl,?_⟩;push_cast [ze,zd,CLe,zf];clear h1 h2 h3 h4 h5;simp_all [Mo,NQ,zrG]<;>omega))
end
section
structure zO where
 dir:Int
 name:Lz
 ino:Int
deriving DecidableEq,Inhabited
structure zV where
 slot:Int
 ino:Int
 content:Bool
 data:Lz
deriving DecidableEq,Inhabited
structure qR where
 fs:FsV
 kept:List zV
 pool:List zn
deriving DecidableEq,Inhabited
def qk:zO:=⟨0,[],0⟩
def znB:zV:=⟨0,0,false,[]⟩
abbrev JN (es:List z6):Prop:=qT Js z6.name es
def Xu (n:Lz) (es:List z6):Bool:=Yo z6.name n es
def zP (n:Lz) (es:List z6):Int:=match jO z6.name n es with | some e=>e.ino | none=>0
def zj (n:Lz) (es:List z6):List z6:=X0 z6.name n es
def zW (n:Lz) (i:Int) (es:List z6):List z6:=Um Js z6.name ⟨n,i⟩ (X0 z6.name n es)
def atW (xs:List zn):List Lz->zO->zO×Int
 | [],s=>(s,0)
 | n :: r,s=>if s.ino=0 then (qk,1) else if (zg s.ino xs).kind≠2 then (qk,3) else atW xs r ⟨(zg s.ino xs).ino,n,zP n (zg s.ino xs).es⟩
def atV (f:FsV) (p:Lz):zO×Int:=if Yh p then atW f.xs (zm p) ⟨0,[],1⟩ else (qk,9)
def Yp (f:FsV) (n b:Int):Bool:=decide (f.xs.length+n<=f.maxI)&&decide (qe f.xs+b<=f.maxB)
def qr (d:Int) (es:List z6->List z6) (xs:List zn):List zn:=qv { zg d xs with es:=es (zg d xs).es } xs
def Mj (f:FsV) (s:zO) (k:Int) (t:Lz):FsV:={ f with next:=f.next+1,xs:=qv ⟨f.next,k,1,t,if k=2 then s.dir else 0,[]⟩ (qr s.dir (zW s.name f.next) f.xs) }
def Hw (f:FsV) (s:zO) (k:Int) (t:Lz):FsV×Int:=
 if may s.name then (if Yp f 1 (if k=1 then (t.length:Int) else 0) then (Mj f s k t,0) else (f,8)) else (f,9)
def zI (f:FsV) (s:zO):FsV:=
 if (zg s.ino f.xs).links-1=0 then { f with xs:=qh s.ino (qr s.dir (zj s.name) f.xs) }
 else { f with xs:=qv { zg s.ino f.xs with links:=(zg s.ino f.xs).links-1 } (qr s.dir (zj s.name) f.xs) }
def ZW (f:FsV) (s:zO) (i:Int):FsV:={ f with xs:=qv { zg i f.xs with links:=(zg i f.xs).links+1 } (qr s.dir (zW s.name i) f.xs) }
def QY (f:FsV) (a b:zO):FsV:=
 let g:=qr b.dir (zW b.name a.ino) (qr a.dir (zj a.name) f.xs)
 if (zg a.ino g).kind=2 then { f with xs:=qv { zg a.ino g with parent:=b.dir } g } else { f with xs:=g }
def X4 (f:FsV) (i:Int) (t:Lz):FsV:={ f with xs:=qv { zg i f.xs with data:=t } f.xs }
def UV (f:FsV) (i:Int) (t:Lz):FsV×Int:=
 if Yp f 0 ((t.length:Int)-(zg i f.xs).data.length) then (X4 f i t,0) else (f,8)
def zaW (n:Int) (ks:List zV):Bool:=Yo zV.slot n ks
def qK (k:zV) (ks:List zV):List zV:=Um Jn zV.slot k ks
def XN (w:qR) (n:Int) (s:zO):qR×Int:=
 if zaW n w.kept then (w,13)
 else (⟨zI w.fs s,qK ⟨n,s.ino,false,[]⟩ w.kept,if (zg s.ino w.fs.xs).links=1 then qv { zg s.ino w.fs.xs with links:=0,parent:=0 } w.pool else w.pool⟩,0)
def JL (w:qR) (n i:Int):qR×Int:=
 if zaW n w.kept then (w,13) else ({ w with kept:=qK ⟨n,i,true,(zg i w.fs.xs).data⟩ w.kept },0)
def isV (f:FsV) (p:Lz) (want:Bool):zO×zn×Int:=
 let a:=atV f p
 (a.1,zg a.1.ino f.xs,if a.2≠0 then a.2 else if want&&!zk a.1.ino f.xs then 1 else if !want&&zk a.1.ino f.xs then 2 else 0)
def ju (f:FsV) (p:Lz):zn×Int:=
 let a:=isV f p true
 (a.2.1,if a.2.2≠0 then a.2.2 else if a.2.1.kind=2 then 4 else if a.2.1.kind=3 then 9 else 0)
def YG (w:qR) (p:Lz) (k:Int) (t:Lz):qR×Int:=
 if (isV w.fs p false).2.2≠0 then (w,(isV w.fs p false).2.2) else ({ w with fs:=(Hw w.fs (isV w.fs p false).1 k t).1 },(Hw w.fs (isV w.fs p false).1 k t).2)
def VR (w:qR) (o:OpV):qR×Int:=
 if (ju w.fs o.a).2≠0 then (w,(ju w.fs o.a).2) else YG w o.b 1 (ju w.fs o.a).1.data
def QP (w:qR) (o:OpV):qR×Int:=
 if (ju w.fs o.a).2≠0 then (w,(ju w.fs o.a).2)
 else if (ju w.fs o.b).2≠0 then (w,(ju w.fs o.b).2)
 else if (ju w.fs o.a).1.ino=(ju w.fs o.b).1.ino then (w,9)
 else if (JL w o.slot (ju w.fs o.b).1.ino).2≠0 then (w,(JL w o.slot (ju w.fs o.b).1.ino).2)
 else if (UV w.fs (ju w.fs o.b).1.ino (ju w.fs o.a).1.data).2≠0 then (w,(UV w.fs (ju w.fs o.b).1.ino (ju w.fs o.a).1.data).2)
 else ({ (JL w o.slot (ju w.fs o.b).1.ino).1 with fs:=(UV w.fs (ju w.fs o.b).1.ino (ju w.fs o.a).1.data).1 },0)
def jV (w:qR) (o:OpV):qR×Int:=
 let a:=isV w.fs o.a true
 if a.2.2≠0 then (w,a.2.2) else if a.2.1.kind=2 then (w,11)
 else if (isV w.fs o.b false).2.2≠0 then (w,(isV w.fs o.b false).2.2)
 else ({ w with fs:=ZW w.fs (isV w.fs o.b false).1 a.2.1.ino },0)
def Gv (w:qR) (o:OpV):qR×Int:=
 if (isV w.fs o.a true).2.2≠0 then (w,(isV w.fs o.a true).2.2)
 else if (isV w.fs o.b false).2.2≠0 then (w,(isV w.fs o.b false).2.2)
 else ({ w with fs:=QY w.fs (isV w.fs o.a true).1 (isV w.fs o.b false).1 },0)
def jb (w:qR) (o:OpV):qR×Int:=
 let a:=isV w.fs o.a true
 if a.2.2≠0 then (w,a.2.2) else if a.2.1.es≠[] then (w,5) else XN w o.slot a.1
def doV (w:qR) (o:OpV):qR×Int:=
 if !Mo o then (w,12)
 else if o.kind=1 then YG w o.a 2 []
 else if o.kind=2 then VR w o
 else if o.kind=3 then QP w o
 else if o.kind=4 then YG w o.a 3 o.d
 else if o.kind=5 then jV w o
 else if o.kind=6 then Gv w o
 else jb w o
def Jm (ks:List zV):Int:=match ks.getLast? with | some k=>k.slot | none=>0
structure qn where
 w:qR
 ops:List OpV
 diags:List Lz
 status:Int
 slot:Int
deriving DecidableEq,Inhabited
def uN (w:qR):qn:=⟨w,[],[],0,Jm w.kept⟩
def ZZ (d:qn) (o:OpV):OpV:={ o with slot:=if o.kind=3∨o.kind=7 then d.slot+1 else 0 }
def J9 (d:qn) (o:OpV):qn×Int:=
 if 7<o.kind then (d,12)
 else if (doV d.w (ZZ d o)).2≠0 then (d,(doV d.w (ZZ d o)).2)
 else (⟨(doV d.w (ZZ d o)).1,d.ops++[ZZ d o],d.diags,d.status,if 0<(ZZ d o).slot then (ZZ d o).slot else d.slot⟩,0)
end
variable {w:qR} {ks:List zV}
section
open CA CB
open Go.RowKit
theorem zcO (a b:Lz):Fun Tryz.prog G0 221 [.str a,.str b] (.sc (.int .i64 (Lib.compareBytes a b))) 0:=by
 refine Fun.wrap (by kernel_rfl) fun R vs h=>?_;obtain ⟨v1,us1,rfl,h1,h⟩:=zh.1 h;obtain ⟨v2,us2,rfl,h2,h⟩:=zh.1 h;rw[zl]at h;subst h;rw[zY]at h1 h2;subst h1 h2;refine (Tryz.strings_Compare ⟨a.toArray⟩ ⟨b.toArray⟩ R.w).mono ?_;rintro e w' ⟨rfl,rfl⟩;exact ⟨_,rfl,W3 _ _,fun R' _=>zq.2 (by simp)⟩
section
variable {G:zp}
theorem zbe (e:z6) (n:Lz):Fun Tryz.prog G 220 [.agg (N8 e),.str n] (.sc (.int .i64 (Lib.compareBytes e.name n))) 0:=by
 have h:=(zcO e.name n).glob0 (G':=G);refine fon Tryz.func220 ?_;dsimp only[Tryz.f220];push_cast;refine cl h ?_;push_cast;exact dn
theorem MA (es:List z6) (n:Lz) (hl:es.length<=100000) (hR:qT Js z6.name es) :
  Fun Tryz.prog G 219 [.sl 2 (zQ es),.str n,.clo (.func 220) [] []] (.tup [.sc (.int .i64 (qu Js z6.name n es:Nat)),.sc (.bool (Yo z6.name n es))]) 0:=by
 refine fon Tryz.func219 ?_;dsimp only[Tryz.f219];push_cast;refine loop (fun p:Nat×Nat=>⟨[(0,.sl 2 (zQ es)),(1,.str n),(2,.clo (.func 220) [] []),(8,.sc (.int .i64 (es.length:Nat))),(9,.sc (.int .i64 p.1)),(10,.sc (.int .i64 p.2))],[],0,0⟩)
  (fun p=>p.1<=p.2/\p.2<=es.length/\(∀ t (h:t<es.length),t<p.1->(Js).lt (z6.name es[t]) n=true)/\∀ t (h:t<es.length),p.2<=t->(Js).lt (z6.name es[t]) n=false) (fun p=>p.2-p.1) (0,es.length) ⟨Wc _,Wb _,fun t _ h=>by (simp at h),fun t h h'=>by (dsimp only at h';omega)⟩ ?_ ?_
 ·exact wk (by push_cast [ze,zd,CLe,zf,We])
 ·rintro ⟨i,j⟩ ⟨h1,h2,h3,h4⟩;dsimp only at h1 h2 h3 h4 ⊢;by_cases h:i<j
  ·obtain ⟨m,hm⟩:∃ m,m=(i+j) / 2:=⟨_,rfl⟩;have hmi:((i:Int)+(j:Int)) / 2=(m:Int):=by omega
   have hml:m<es.length:=by omega
   have hat:=Yx es m hml;have hlt:=(zfE es[m].name n).to_iff;push_cast [h,hmi,hat]
   repeat refine an ?_
   refine cl ((zbe es[m] n)) ?_;push_cast;cases hc:(Js).lt (z6.name es[m]) n with
   | true =>
    have hcv:(Lib.compareBytes es[m].name n<0)=True:=eq_true (hlt.mpr hc);push_cast [hcv]
    repeat refine an ?_
    refine ⟨(m+1,j),⟨by omega,h2,fun t ht hlt2=>?_,h4⟩,by dsimp only;omega,wk⟩;dsimp only at hlt2;rcases Wr t m with q | q
    ·exact (Js).tr ((WV.1 hR) t m ht hml q) hc
    ·have:t=m:=by omega
     subst this;exact hc
   | false =>
    have hcv:(Lib.compareBytes es[m].name n<0)=False:=WH (fun e=>by have h7:(Js).lt (z6.name es[m]) n=true:=hlt.mp e;rw[hc]at h7;cases h7);push_cast [hcv]
    repeat refine an ?_
    refine ⟨(i,m),⟨by omega,by omega,h3,fun t ht hge=>?_⟩,by dsimp only;omega,wk⟩;dsimp only at hge;rcases Wr m t with q | q
    ·cases h9:(Js).lt (z6.name es[t]) n with
     | false=>rfl
     | true=>have:=(Js).tr ((WV.1 hR) m t hml ht q) h9;rw[hc]at this;cases this
    ·have:t=m:=by omega
     subst this;exact hc
  ·have hij:i=j:=by omega
   subst hij;have hrk:=ZG (o:=Js) (key:=z6.name) n es i h2 h3 h4;push_cast [h];refine br (fun hx=>?_) (fun hx=>?_)
   ·have hx:i<es.length:=by simpa using hx
    have hat:=Yx es i hx;have hh:=uD n hR hrk hx;push_cast [hx,hat]
    repeat refine an ?_
    refine cl ((zbe es[i] n)) ?_;push_cast;have hcv:decide (Lib.compareBytes es[i].name n=0)=Yo z6.name n es:=by
     rw[hh];exact Bb.2 (zez es[i].name n).to_iff
    push_cast [hcv];exact dn (by push_cast [ze,zd,CLe,zf,hrk])
   ·have hx:¬i<es.length:=by simpa using hx
    have hh:=Nk n hR (by omega);push_cast [hx];exact dn (by push_cast [ze,zd,CLe,zf,hrk,hh])
theorem vK (es:List z6) (n:Lz) (hl:es.length<=100000) (hR:JN es):Fun Tryz.prog G 179 [.sl 2 (zQ es),.str n] (.tup [.sc (.int .i64 (qu Js z6.name n es:Nat)),.sc (.bool (Yo z6.name n es))]) 0:=by
 refine fon Tryz.func179 ?_;dsimp only[Tryz.f179];push_cast;refine cl (MA es n hl hR) ?_;push_cast;exact dn
theorem yx (es:List z6) (n:Lz) (hl:es.length<=100000) (hR:JN es):Fun Tryz.prog G 151 [.sl 2 (zQ es),.str n] (.tup [.sc (.int .i64 (zP n es)),.sc (.bool (Xu n es))]) 0:=by
 obtain ⟨_,_,h3,h4⟩:=Un n hR;have h:=vK (G:=G) es n hl hR;cases hh:Yo z6.name n es with
 | false =>
  have hf:zP n es=0:=by unfold zP;rw[(h4 hh).1]
  have he:Xu n es=false:=hh;rw[hh]at h;refine fon Tryz.func151 ?_;dsimp only[Tryz.f151];push_cast;refine cl h ?_;push_cast;exact dn (by push_cast [ze,zd,CLe,zf,hf,he])
 | true =>
  obtain ⟨hlt,_,g2,_⟩:=h3 hh;have hf:zP n es=es[qu Js z6.name n es].ino:=by unfold zP;rw[g2]
  have he:Xu n es=true:=hh;have hat:=Yx es _ hlt;rw[hh]at h;refine fon Tryz.func151 ?_;dsimp only[Tryz.f151];push_cast;refine cl h ?_;push_cast [hat]
  repeat refine an ?_
  exact dn (by push_cast [ze,zd,CLe,zf,hf,he])
end
end
section
open CA CB
open Go.RowKit
section
variable {G:zp}
theorem jn {es:List z6}:∀ r∈zQ es,r.length=2:=fun r hr=>by
 obtain ⟨x,_,rfl⟩:=WR.1 hr;rfl
theorem jt {es:List z6}:jl (zQ es):=fun r hr=>by
 obtain ⟨x,_,rfl⟩:=WR.1 hr;rfl
theorem u7 {c i:Nat} {rows:List (List C)} (hk:∀ r∈rows,r.length=k) (hi:i<=rows.length):(qA k rows c).take (i*k)=(rows.take i).flatten:=by
 have hf:=zK hk;have h1:i*k<=rows.length*k:=WS _ hi;unfold qA;rw[OS (by omega),ZV hk]
theorem zkN {es:List z6} {c r:Nat} (hr:r<es.length) :
  (qA 2 (zQ es) c).take (r*2+1)++[C.sc (.int .i64 i)]++(qA 2 (zQ es) c).drop (r*2+1+1)=qA 2 (zQ (es.set r ⟨es[r].name,i⟩)) c:=by
 have hll:(zQ es).length=es.length:=We ..;have h:=zar (c:=c) (row:=N8 ⟨es[r].name,i⟩) (i:=r) jn rfl (show r<(zQ es).length by omega);have e1:(zQ es).set r (N8 ⟨es[r].name,i⟩)=zQ (es.set r ⟨es[r].name,i⟩):=by simp[List.map_set]
 rw[e1]at h;rw[←h];have t0:=u7 (c:=c) (i:=r) (jn (es:=es)) (by omega);have t1:=u7 (c:=c) (i:=r+1) (jn (es:=es)) (by omega);have e2:((zQ es).take (r+1)).flatten=((zQ es).take r).flatten++N8 es[r]:=by
  rw[W1,Yx es r hr];simp
 have e3:(qA 2 (zQ es) c).take (r*2+1)=(qA 2 (zQ es) c).take (r*2)++[C.str es[r].name]:=by
  have e4:(qA 2 (zQ es) c).take (r*2+1)=((qA 2 (zQ es) c).take ((r+1)*2)).take (r*2+1):=by rw[BY,OI (by omega)]
  have hl0:((zQ es).take r).flatten.length=r*2:=by
   rw[zK (k:=2) fun x hx=>jn x (Ww hx),W6,hll,OI (by omega)]
  rw[e4,t1,e2,t0,Ax,hl0,Wh (by omega),show r*2+1-r*2=1 by omega]
  rfl
 rw[e3];simp
theorem xz (es:List z6) (n:Lz) (i:Int) (hl:es.length<=90000) (hR:JN es) :
  Fun Tryz.prog G 257 [.sl 2 (zQ es),.str n,.sc (.int .i64 i)] (.own 0 141 2 (zQ (zW n i es))) 1:=by
 obtain ⟨_,_,h3,h4⟩:=Un n hR;have hll:(zQ es).length=es.length:=We ..;have hat:=vK (G:=G) es n (by omega) hR;have hrl:=ZE (o:=Js) (key:=z6.name) n es;refine foF (fun _=>[]) Tryz.func257 ?_;dsimp only[Tryz.f257];push_cast;refine cl hat ?_;push_cast;refine j6 [] [] (zc0 (zQ es) jn jt (by omega)) rfl (by decide) (by decide) (by simp) (by push_cast) (by push_cast) (fun r bx' m hp=>?_);obtain ⟨rfl,⟨hne,c,h1,h2,rfl,rfl⟩ | ⟨he,⟨rfl,rfl⟩ | ⟨rfl,rfl⟩⟩⟩:=hp
 ·have hbl:=JG jn h1;have hre:∀ fp fo,C.reL fp fo (qA 2 (zQ es) c)=qA 2 (zQ es) c:=fun fp fo=>zD (zG jt);have hpos:=WE.2 hne;cases hh:Yo z6.name n es with
  | true =>
   obtain ⟨hlt,g1,g2,g3,g4⟩:=h3 hh;have hset:zW n i es=es.set (qu Js z6.name n es) ⟨n,i⟩:=g4 ⟨n,i⟩ rfl;have hbs:=zkN (c:=c) (i:=i) hlt;rw[g1,←hset]at hbs;have hwl:(zW n i es).length=es.length:=by rw[hset,Bq]
   push_cast [hh,hre];rw[hbs];refine ⟨by omega,by omega,by rw[hbl];omega,[(1,141,2,zQ (zW n i es),c)],[.inl 0],zB rfl (by omega) (by rw[We,hwl];omega) h2 jn jt,rfl,rfl,?_⟩;rw[hll,←hwl];push_cast [ze,zd,CLe,zf,show (zQ (zW n i es)).length=(zW n i es).length from We ..]
  | false =>
   have hw:zW n i es=es.take (qu Js z6.name n es)++⟨n,i⟩ :: es.drop (qu Js z6.name n es):=by
    unfold zW;rw[(h4 hh).2.1];exact (h4 hh).2.2 ⟨n,i⟩ rfl
   have hset:zQ (zW n i es)=(zQ es).take (qu Js z6.name n es)++N8 ⟨n,i⟩ :: (zQ es).drop (qu Js z6.name n es):=by rw[hw];simp
   have hsl:(zQ (zW n i es)).length=(zQ es).length+1:=by rw[hset];simp;omega
   push_cast [hh,hre];refine j6 [1] [0] (zas (e:=141) (zQ es) (N8 ⟨n,i⟩) (qu Js z6.name n es) c jn rfl jt rfl (by omega) (by omega) h1 h2) rfl (by decide) (by decide) (by simp) (by push_cast) (by push_cast [hre]) (fun r bx' m hp=>?_);rw[←hset]at hp;have hre2:∀ fp fo c,C.reL fp fo (qA 2 (zQ (zW n i es)) c)=qA 2 (zQ (zW n i es)) c:=fun fp fo c=>zD (zG jt);obtain ⟨rfl,c',g1,g2,⟨rfl,rfl⟩ | ⟨rfl,rfl⟩⟩:=hp
   ·push_cast [hre2,hre];exact ⟨[(1,141,2,zQ (zW n i es),c')],[.inl 1],zB rfl (by omega) g1 g2 jn jt,rfl,rfl,by push_cast [ze,zd,CLe,zf]⟩
   ·have hra:∀ fp fo,C.reL fp fo (List.replicate (c*2) .any)=List.replicate (c*2) .any:=fun fp fo=>zD (by simp[OL,C.stayB]);push_cast [hre2,hre,hra];exact ⟨[(2,141,2,zQ (zW n i es),c')],[.inl 1],zB rfl (by omega) g1 g2 jn jt,rfl,rfl,by push_cast [ze,zd,CLe,zf]⟩
 ·have he:es = []:=by simpa using he
  have hh:Yo z6.name n es=false:=by rw[he];rfl
  have hr0:qu Js z6.name n es=0:=by rw[he];rfl
  have hset:zW n i es = [⟨n,i⟩]:=by rw[he];rfl
  push_cast [hh,hr0];refine j6 [] [0] (zim (e:=141) (N8 ⟨n,i⟩) rfl rfl) rfl (by decide) (by decide) (by simp) (by push_cast) (by push_cast) (fun r bx' m hp=>?_);obtain ⟨rfl,c,g1,g2,rfl,rfl⟩:=hp;have hre:∀ fp fo,C.reL fp fo (qA 2 [N8 ⟨n,i⟩] c)=qA 2 [N8 ⟨n,i⟩] c:=fun fp fo=>zD (zG (jt (es:=[⟨n,i⟩])));push_cast [hre];exact ⟨[(0,141,2,zQ [⟨n,i⟩],c)],[.inl 1],zB rfl (by omega) g1 g2 jn jt,rfl,rfl,by push_cast [ze,zd,CLe,zf,hset]⟩
 ·have he:es = []:=by simpa using he
  have hh:Yo z6.name n es=false:=by rw[he];rfl
  have hr0:qu Js z6.name n es=0:=by rw[he];rfl
  have hset:zW n i es = [⟨n,i⟩]:=by rw[he];rfl
  push_cast [hh,hr0];refine j6 [0] [0] (zas (e:=141) [] (N8 ⟨n,i⟩) 0 0 (fun r hr=>by cases hr) rfl (fun r hr=>by cases hr) rfl (by simp) (by simp) (by simp) (by simp)) rfl (by decide) (by decide) (by simp) (by push_cast) (by push_cast [qA]) (fun r bx' m hp=>?_);obtain ⟨rfl,c,g1,g2,hp⟩:=hp;have hre:∀ fp fo,C.reL fp fo (qA 2 [N8 ⟨n,i⟩] c)=qA 2 [N8 ⟨n,i⟩] c:=fun fp fo=>zD (zG (jt (es:=[⟨n,i⟩])));rcases hp with ⟨rfl,rfl⟩ | ⟨rfl,rfl⟩
  ·push_cast [hre];exact ⟨[(0,141,2,zQ [⟨n,i⟩],c)],[.inl 1],zB rfl (WL (AZ _) g1) g1 g2 jn jt,rfl,rfl,by push_cast [ze,zd,CLe,zf,hset]⟩
  ·push_cast [hre];exact ⟨[(1,141,2,zQ [⟨n,i⟩],c)],[.inl 1],zB rfl (WL (AZ _) g1) g1 g2 jn jt,rfl,rfl,by push_cast [ze,zd,CLe,zf,hset]⟩
end
end
section
open CA CB
open Go.RowKit
section
variable {G:zp}
theorem znZ {A B Z:List C} {r:Nat} (hA:A.length=r*2) (hB:B.length=(k-r)*2) (hZ:Z.length=k*2) (hr:r<=k):spl (A++Z.drop (r*2)) (r*2) (B.take ((k-r)*2))=A++B:=by
 unfold spl;rw[Wh (l:=B) (by omega),OS (by omega),Wh (l:=A) (by omega),OM (l:=A++Z.drop (r*2)) (by rw[Wj,WZ];omega),Oi]
theorem xq (es:List z6) (n:Lz) (hl:es.length<=90000) (hR:JN es) (hh:Yo z6.name n es=true) :
  Fun Tryz.prog G 259 [.sl 2 (zQ es),.str n] (.own 0 141 2 (zQ (zj n es))) 1:=by
 obtain ⟨_,_,h3,h4⟩:=Un n hR;have hll:(zQ es).length=es.length:=We ..;have hat:=vK (G:=G) es n (by omega) hR;have hrl:=ZE (o:=Js) (key:=z6.name) n es;rw[hh]at hat;obtain ⟨hlt,g1,g2,g3,g4⟩:=h3 hh;have hw:zj n es=es.take (qu Js z6.name n es)++es.drop (qu Js z6.name n es+1):=g3;obtain ⟨k,hk⟩:∃ k,es.length=k+1:=⟨es.length-1,by omega⟩;have hkc:(zQ es).length=k+1:=by omega
 have hn:((zQ es).length:Int)-1=(k:Int):=by omega
 have hwl:(zj n es).length=k:=by rw[hw];simp;omega
 generalize qu Js z6.name n es=r at *;have hm:min r k=r:=by omega
 rcases O7 k with h1 | h1
 ·subst h1;obtain rfl:r=0:=by omega
  have hn:((zQ es).length:Int)-1=0:=hn;have hwe:zj n es = []:=Ak.1 hwl;refine fof (fun i=>if i=5 then X5 [(0,.pure),(1,.pure),(2,.pure),(3,.pure),(4,.pure),(7,.pure),(8,.pure),(9,.pure),(10,.pure),(5,.flt [0,5,6,7,8]),(6,.pure),(11,.bar)] else []) Tryz.func259 ?_;dsimp only[Tryz.f259];push_cast;refine cl hat ?_;push_cast [hn,Int.toNat_zero];refine ⟨by omega,by omega,zpn (m:=0) (xs:=[]) Zc Yt rfl rfl (fun _ _ _ _ _ h=>by cases h) rfl ?_⟩;push_cast;have hd:(zQ es).drop 1 = []:=OM (by omega);rw[hd];refine ⟨⟨by split<;>first | omega | trivial,by split<;>first | omega | trivial⟩,zpn (m:=0) (xs:=[]) Zc Yt rfl rfl (fun _ _ _ _ _ h=>by cases h) rfl ?_⟩;push_cast;exact ⟨[.inl 0],rfl,rfl,by push_cast [ze,zd,CLe,zf,hwe]⟩
 ·refine foF (fun i=>if i=5 then X5 [(0,.pure),(1,.pure),(2,.pure),(3,.pure),(4,.pure),(7,.pure),(8,.pure),(9,.pure),(10,.pure),(5,.flt [0,5,6,7,8]),(6,.pure),(11,.bar)] else if i=1000000+94 then [true,true] else []) Tryz.func259 ?_;dsimp only[Tryz.f259];push_cast;refine cl hat ?_;push_cast [hn,Oz];have hA:((zQ es).take r).flatten.length=r*2:=by
   rw[zK (k:=2) fun x hx=>jn x (Ww hx),W6,hkc,OI (by omega)]
  have hB:((zQ es).drop (r+1)).flatten.length=(k-r)*2:=by
   rw[zK (k:=2) fun x hx=>jn x (WU hx),WZ,hkc];omega
  have hZ:((List.replicate k [C.str [],C.sc (.int .i64 0)]).flatten).length=k*2:=by simp
  refine ⟨⟨by omega,by omega⟩,by omega,by omega,by omega,by omega,⟨by omega,by omega⟩,⟨by omega,by omega⟩,⟨by omega,by omega⟩,znD (m:=r) (xs:=((zQ es).take r).flatten) Zc Yt (by simp[C.xs?,C.rows?,hkc];omega) rfl hA (by rw[hZ];omega) ?_⟩;rw[hm];push_cast;have hS:spl (List.replicate k [C.str [],C.sc (.int .i64 0)]).flatten 0 (((zQ es).take r).flatten.take (r*2))=((zQ es).take r).flatten++((List.replicate k [C.str [],C.sc (.int .i64 0)]).flatten).drop (r*2):=by
   unfold spl;rw[Oy,OB,Ox,Wh (by omega),hA]
  have hm2:min (k-r) (k-r)=k-r:=Nat.min_self _;rw[hS];refine ⟨⟨by split<;>first | exact ⟨by omega,by omega⟩ | trivial,by split<;>first | exact ⟨by omega,by omega⟩ | trivial,by split<;>first | exact ⟨by omega,by omega⟩ | trivial⟩,Wb _,⟨by omega,by omega⟩,znD (m:=k-r) (xs:=((zQ es).drop (r+1)).flatten) Zc Yt (by simp[C.xs?,C.rows?,hkc]) rfl hB (by rw[Wj,WZ,hA,hZ];omega) ?_⟩;rw[hm2];push_cast;have hwc:(zQ (zj n es)).length=k:=(We ..).trans hwl;have hF:spl (((zQ es).take r).flatten++((List.replicate k [C.str [],C.sc (.int .i64 0)]).flatten).drop (r*2)) (r*2) (((zQ es).drop (r+1)).flatten.take ((k-r)*2))=qA 2 (zQ (zj n es)) k:=by
   rw[znZ hA hB hZ (by omega)];unfold qA;rw[hwc,Nat.sub_self,Nat.zero_mul,hw];simp
  rw[hF];refine ⟨[(0,141,2,zQ (zj n es),k)],[.inl 0],zB rfl h1 (by omega) (by omega) jn jt,rfl,rfl,?_⟩;push_cast [ze,zd,CLe,zf,hwc]
end
end
section
theorem Zv (n:Int) (xs:List zn):zk n xs=(X8 n xs).isSome:=by
 unfold zk X8
 induction xs with
 | nil=>rfl
 | cons y r ih =>
  rw[A7,Av];cases h:(y.ino==n) with
  | true=>rfl
  | false=>rw[O4,ih]
theorem zaI (h:X8 n xs=some x):x.ino=n/\x∈xs:=by
 unfold X8 at h;have h1:=List.find?_some h;exact ⟨by simpa using h1,Bj h⟩
theorem zaH (n:Int) (x:zn):∀ xs:List zn,(∀ z∈xs,z.ino≠x.ino)->X8 n (Zz x xs)=if x.ino=n then some x else X8 n xs
 | [],_=>by
  unfold Zz X8;by_cases h:x.ino=n<;>simp[h]
 | y :: r,hn=>by
  have hy:=hn y Wk;have ih:=zaH n x r fun z hz=>hn z (Wl _ hz);unfold X8 at ih ⊢;unfold Zz;split
  ·by_cases h:x.ino=n
   ·simp[h]
   ·simp[h,Av]
  ·by_cases h:x.ino=n
   ·rw[if_pos h]at ih ⊢;have hyn:(y.ino==n)=false:=by simp;omega
    rw[Av,hyn];exact ih
   ·rw[if_neg h]at ih ⊢;rw[Av,Av,ih]
theorem ZA (n m:Int):∀ xs:List zn,X8 n (qh m xs)=if n=m then none else X8 n xs
 | []=>by unfold X8 qh;simp
 | y :: r=>by
  have ih:=ZA n m r;by_cases hy:y.ino=m
  ·rw[JU hy,ih];by_cases h:n=m
   ·rw[if_pos h,if_pos h]
   ·rw[if_neg h,if_neg h];have hyn:(y.ino==n)=false:=by simp;omega
    unfold X8;rw[Av,hyn]
  ·rw[JV hy];unfold X8 at ih ⊢;rw[Av,Av,ih];by_cases h:n=m
   ·have hyn:(y.ino==n)=false:=by simp;omega
    simp only[hyn,if_pos h]
   ·simp only[if_neg h]
theorem zmy:∀ z∈qh n xs,z.ino≠n:=fun z hz=>by
 unfold qh at hz;simpa using (OC.1 hz).2
theorem zab (n:Int) (x:zn) (xs:List zn):X8 n (qv x xs)=if x.ino=n then some x else X8 n xs:=by
 unfold qv;rw[zaH n x _ zmy,ZA];by_cases h:x.ino=n
 ·rw[if_pos h,if_pos h]
 ·rw[if_neg h,if_neg h,if_neg (fun e=>h e.symm)]
theorem jd (n:Int) (x:zn) (xs:List zn):zk n (qv x xs)=(decide (x.ino=n)||zk n xs):=by
 rw[Zv,zab,Zv];by_cases h:x.ino=n<;>simp[h]
theorem Qw (n m:Int) (xs:List zn):zk n (qh m xs)=(!decide (n=m)&&zk n xs):=by
 rw[Zv,ZA,Zv];by_cases h:n=m<;>simp[h]
theorem zm9:∀ {x:zn},z8 xs->(x∈xs↔X8 x.ino xs=some x):=by
 induction xs with
 | nil=>intro x _;simp[X8]
 | cons y r ih =>
  intro x hR;obtain ⟨h1,h2⟩:=Jj.1 hR;constructor
  ·intro hx;rcases WK.1 hx with rfl | hx
   ·unfold X8;rw[BA (by simp)]
   ·have:=h1 x hx;unfold X8;rw[Bz (by simp;omega)];exact (ih h2).1 hx
  ·intro h;exact (zaI h).2
def Me (g:zn->Nat) (xs:List zn):Nat:=(xs.map g).sum
theorem ZT (g:zn->Nat) {n:Int}:∀ {xs:List zn},z8 xs->Me g xs=Me g (qh n xs)+(match X8 n xs with | some x=>g x | none=>0)
 | [],_=>rfl
 | y :: r,hR=>by
  obtain ⟨h1,h2⟩:=Jj.1 hR;have ih:=ZT g (n:=n) h2;unfold Me at ih ⊢;by_cases hy:y.ino=n
  ·have hb:zk n r=false:=kX fun z hz=>by have:=h1 z hz;omega
   have hg:X8 n (y :: r)=some y:=by unfold X8;rw[BA (by simpa using hy)]
   rw[hg,JU hy,Vc hb];simp;omega
  ·have hg:X8 n (y :: r)=X8 n r:=by unfold X8;rw[Bz (by simpa using hy)]
   rw[hg,JV hy];simp only[Wm,OX];omega
theorem za0 (g:zn->Nat) (x:zn):∀ xs:List zn,Me g (Zz x xs)=Me g xs+g x
 | []=>by unfold Zz Me;simp
 | y :: r=>by
  have ih:=za0 g x r;unfold Me at ih ⊢;unfold Zz;split
  ·simp;omega
  ·simp only[Wm,OX];omega
theorem UH (g:zn->Nat) {x:zn} {xs:List zn} (hR:z8 xs):Me g (qv x xs)+(match X8 x.ino xs with | some y=>g y | none=>0)=Me g xs+g x:=by
 unfold qv;rw[za0,ZT g (n:=x.ino) hR];omega
end
section
def Yb (n:Int) (x:zn):Nat:=(x.es.filter fun e=>decide (e.ino=n)).length
def J1 (n:Int) (xs:List zn):Nat:=Me (Yb n) xs
structure FsI (f:FsV):Prop where
 rises:z8 f.xs
 ino:∀ x∈f.xs,1<=x.ino/\x.ino<f.next
 kind:∀ x∈f.xs,x.kind=1∨x.kind=2∨x.kind=3
 es:∀ x∈f.xs,JN x.es
 file:∀ x∈f.xs,x.kind≠2->x.es = []
 led:∀ x∈f.xs,∀ e∈x.es,zk e.ino f.xs=true
 links:∀ x∈f.xs,x.links=(J1 x.ino f.xs:Int)
 root:zk 1 f.xs=true
 base:(zg 1 f.xs).kind=2
 bare:J1 1 f.xs=0
theorem zi (h:zk n xs=true):X8 n xs=some (zg n xs)/\zg n xs∈xs/\(zg n xs).ino=n:=by
 rw[Zv]at h;obtain ⟨x,hx⟩:=AP.1 h;have e:zg n xs=x:=by unfold zg;rw[hx];rfl
 obtain ⟨h1,h2⟩:=zaI hx;rw[e];exact ⟨hx,h2,h1⟩
theorem JW (h:zk n xs=false):X8 n xs=none/\zg n xs=Mg:=by
 have h1:=N1 h;exact ⟨h1,by unfold zg;rw[h1];rfl⟩
theorem qV (n:Int) (x:zn) (xs:List zn):zg n (qv x xs)=if x.ino=n then x else zg n xs:=by
 unfold zg;rw[zab];split<;>rfl
theorem Hs (n m:Int) (xs:List zn):zg n (qh m xs)=if n=m then Mg else zg n xs:=by
 unfold zg;rw[ZA];split<;>rfl
theorem qB {z:zn}:z∈qv x xs↔z=x∨(z∈xs/\z.ino≠x.ino):=by
 unfold qv;rw[Nn];unfold qh;simp
theorem Xo {z:zn}:z∈qh n xs↔z∈xs/\z.ino≠n:=by
 unfold qh;simp
theorem Yk (h:x∈xs):zk x.ino xs=true:=by
 unfold zk;exact OA.2 ⟨x,h,by simp⟩
theorem zaV {α κ:Type} [DecidableEq κ] {o:zlv κ} {key:α->κ} (p:α->Bool) (x:α):∀ xs:List α,((Um o key x xs).filter p).length=(xs.filter p).length+if p x then 1 else 0
 | []=>by unfold Um;cases h:p x<;>simp[h]
 | y :: r=>by
  have ih:=zaV (o:=o) (key:=key) p x r;unfold Um;split
  ·cases h:p x<;>simp[h,Ab]
  ·rw[Ab,Ab];cases h:p y
   ·simpa using ih
   ·simp[ih];omega
theorem zhi [DecidableEq κ] {o:zlv κ} {key:α->κ} (p:α->Bool) {n:κ} {xs:List α} (hR:qT o key xs) {e:α} (h:jO key n xs=some e):(xs.filter p).length=((X0 key n xs).filter p).length+if p e then 1 else 0:=by
 obtain ⟨_,_,h3,h4⟩:=Un n hR;cases hh:Yo key n xs with
 | false=>rw[(h4 hh).1]at h;cases h
 | true =>
  obtain ⟨g,_,g2,g3,_⟩:=h3 hh;rw[g2]at h;simp only[Option.some.injEq]at h;have e0:xs=xs.take (qu o key n xs)++e :: xs.drop (qu o key n xs+1):=by
   rw[←h,←Oe g,Og]
  rw[g3]
  conv=>lhs;rw[e0]
  rw[OW,OW,Ab];cases hp:p e<;>simp<;>omega
theorem ql [DecidableEq κ] {key:α->κ} {n:κ} {xs:List α} {e:α} (h:jO key n xs=some e):key e=n/\e∈xs:=by
 unfold jO at h;exact ⟨by have:=List.find?_some h;simpa using this,Bj h⟩
theorem jq [DecidableEq κ] {key:α->κ} {n:κ} {xs:List α}:Yo key n xs=(jO key n xs).isSome:=by
 unfold Yo jO
 induction xs with
 | nil=>rfl
 | cons y r ih =>
  rw[A7,Av];cases h:decide (key y=n) with
  | true=>rfl
  | false=>rw[O4,ih]
theorem UN {m:Int} (hR:z8 xs) (hh:zk n xs=true) (hx:x.ino=n):J1 m (qv x xs)+Yb m (zg n xs)=J1 m xs+Yb m x:=by
 have h:=UH (Yb m) (x:=x) hR;rw[hx,(zi hh).1]at h;exact h
theorem ze6 {m:Int} (hR:z8 xs) (hh:zk x.ino xs=false):J1 m (qv x xs)=J1 m xs+Yb m x:=by
 have h:=UH (Yb m) (x:=x) hR;rw[(JW hh).1]at h;exact h
theorem zjE {m:Int} (hR:z8 xs) (hh:zk n xs=true):J1 m xs=J1 m (qh n xs)+Yb m (zg n xs):=by
 have h:=ZT (Yb m) (n:=n) hR;rw[(zi hh).1]at h;exact h
theorem zji (h:∀ x∈xs,∀ e∈x.es,e.ino≠n):J1 n xs=0:=by
 unfold J1 Me;rw[List.sum_eq_zero_iff_forall_eq_nat];intro k hk;obtain ⟨x,hx,rfl⟩:=WR.1 hk;unfold Yb;rw[Ak,AW];intro e he;simpa using h x hx e he
theorem ZD (h:J1 n xs=0):∀ x∈xs,∀ e∈x.es,e.ino≠n:=fun x hx e he hn=>by
 unfold J1 Me at h;rw[List.sum_eq_zero_iff_forall_eq_nat]at h;have:=h _ (BO hx);unfold Yb at this;rw[Ak,AW]at this;exact this e he (by simpa using hn)
theorem Vb {m:Int} {n:Lz} {es:List z6} (hR:JN es) (h:Xu n es=false):Yb m { x with es:=zW n i es }=Yb m { x with es:=es }+if i=m then 1 else 0:=by
 obtain ⟨_,_,_,h4⟩:=Un n hR;unfold zW Yb;rw[(h4 h).2.1];show ((Um Js z6.name ⟨n,i⟩ es).filter _).length=_;rw[zaV];by_cases hi:i=m<;>simp[hi]
theorem Qy {m:Int} {n:Lz} {es:List z6} (hR:JN es) (h:jO z6.name n es=some ⟨n,i⟩):Yb m { x with es:=es }=Yb m { x with es:=zj n es }+if i=m then 1 else 0:=by
 unfold zj Yb;have:=zhi (fun e:z6=>decide (e.ino=m)) hR h;simp only at this ⊢;rw[this];by_cases hi:i=m<;>simp[hi]
theorem YV {n:Lz} {es:List z6} (h:Xu n es=true):jO z6.name n es=some ⟨n,zP n es⟩:=by
 unfold Xu at h;rw[jq]at h;obtain ⟨e,he⟩:=AP.1 h;have h1:=(ql he).1;unfold zP;rw[he];cases e with
 | mk a b=>simp at h1 ⊢;exact h1
theorem VS {n:Lz} {es:List z6} (h:JN es):JN (zW n i es):=kC (x:=(⟨n,i⟩:z6)) h
theorem XP {n:Lz} {es:List z6} (h:JN es):JN (zj n es):=kT n h
theorem Yi {n:Lz} {es:List z6} {e:z6} (h:e∈zW n i es):e=⟨n,i⟩∨e∈es:=by
 unfold zW at h;rcases QA.1 h with h | h
 ·exact .inl h
 ·exact .inr (ZJ.1 h).1
theorem je {n:Lz} {es:List z6} {e:z6} (h:e∈zj n es):e∈es/\e.name≠n:=ZJ.1 h
end
section
structure YT (f:FsV) (s:zO):Prop where
 has:zk s.dir f.xs=true
 kind:(zg s.dir f.xs).kind=2
 free:Xu s.name (zg s.dir f.xs).es=false
structure zX (f:FsV) (s:zO):Prop where
 has:zk s.dir f.xs=true
 kind:(zg s.dir f.xs).kind=2
 there:jO z6.name s.name (zg s.dir f.xs).es=some ⟨s.name,s.ino⟩
theorem zX.ino {s:zO} (hf:FsI f) (h:zX f s):zk s.ino f.xs=true:=by
 have:=hf.led _ (zi h.has).2.1 ⟨s.name,s.ino⟩ (ql h.there).2;exact this
abbrev qD (d:zn) (es:List z6):zn:={ d with es:=es }
theorem qC {F:List z6->List z6} (hh:zk n xs=true) {z:zn}:z∈qr n F xs↔z=qD (zg n xs) (F (zg n xs).es)∨(z∈xs/\z.ino≠n):=by
 unfold qr;rw[qB];show z=qD _ _∨(z∈xs/\z.ino≠(zg n xs).ino)↔_;rw[(zi hh).2.2]
theorem z7 {m:Int} {F:List z6->List z6} (hh:zk n xs=true):zk m (qr n F xs)=zk m xs:=by
 unfold qr;rw[jd];show (decide ((zg n xs).ino=m)||zk m xs)=_;rw[(zi hh).2.2];by_cases h:n=m
 ·subst h;rw[hh];simp
 ·simp[h]
theorem JY {m:Int} {F:List z6->List z6} (hh:zk n xs=true):zg m (qr n F xs)=if n=m then qD (zg n xs) (F (zg n xs).es) else zg m xs:=by
 unfold qr;rw[qV];show (if (zg n xs).ino=m then _ else _)=_;rw[(zi hh).2.2]
theorem Zm {m:Int} {F:List z6->List z6} (hR:z8 xs) (hh:zk n xs=true):J1 m (qr n F xs)+Yb m (zg n xs)=J1 m xs+Yb m (qD (zg n xs) (F (zg n xs).es)):=
 UN hR hh (zi hh).2.2
theorem Na (hf:FsI f):zk f.next f.xs=false/\∀ x∈f.xs,∀ e∈x.es,e.ino≠f.next:=by
 have h1:zk f.next f.xs=false:=by
  rw[Or];intro h;have:=(hf.ino _ (zi h).2.1).2;rw[(zi h).2.2]at this;omega
 refine ⟨h1,fun x hx e he hn=>?_⟩;have:=hf.led x hx e he;rw[hn,h1]at this;cases this
theorem vp (hf:FsI f):1<f.next:=by
 have:=(hf.ino _ (zi hf.root).2.1).2;rw[(zi hf.root).2.2]at this;exact this
theorem zn5 (hf:FsI f) {s:zO} (hs:YT f s) (k:Int) (hk:k=1∨k=2∨k=3) (t:Lz):FsI (Mj f s k t):=by
 obtain ⟨n1,n2⟩:=Na hf;have hd:=(zi hs.has).2.1;have hR1:z8 (qr s.dir (zW s.name f.next) f.xs):=qf hf.rises;have hn1:zk f.next (qr s.dir (zW s.name f.next) f.xs)=false:=by rw[z7 hs.has];exact n1
 have hlt:=vp hf;have hdn:s.dir≠f.next:=fun e=>by have:=hs.has;rw[e,n1]at this;cases this
 refine ⟨qf hR1,fun x hx=>?_,fun x hx=>?_,fun x hx=>?_,fun x hx hk2=>?_,fun x hx e he=>?_,fun x hx=>?_,?_,?_,?_⟩
 ·rcases qB.1 hx with rfl | ⟨hx,_⟩
  ·exact ⟨by show 1<=f.next;omega,by show f.next<f.next+1;omega⟩
  ·rcases (qC hs.has).1 hx with rfl | ⟨hx,_⟩
   ·have:=hf.ino _ hd;exact ⟨this.1,by show (zg s.dir f.xs).ino<f.next+1;omega⟩
   ·have:=hf.ino _ hx;exact ⟨this.1,by show x.ino<f.next+1;omega⟩
 ·rcases qB.1 hx with rfl | ⟨hx,_⟩
  ·exact hk
  ·rcases (qC hs.has).1 hx with rfl | ⟨hx,_⟩
   ·exact .inr (.inl hs.kind)
   ·exact hf.kind _ hx
 ·rcases qB.1 hx with rfl | ⟨hx,_⟩
  ·exact List.Pairwise.nil
  ·rcases (qC hs.has).1 hx with rfl | ⟨hx,_⟩
   ·exact VS (hf.es _ hd)
   ·exact hf.es _ hx
 ·rcases qB.1 hx with rfl | ⟨hx,_⟩
  ·rfl
  ·rcases (qC hs.has).1 hx with rfl | ⟨hx,_⟩
   ·exact absurd hs.kind hk2
   ·exact hf.file _ hx hk2
 ·show zk e.ino (qv _ _)=true;rw[jd,z7 hs.has];show (decide (f.next=e.ino)||zk e.ino f.xs)=true;rcases qB.1 hx with rfl | ⟨hx,_⟩
  ·cases he
  ·rcases (qC hs.has).1 hx with rfl | ⟨hx,_⟩
   ·rcases Yi he with rfl | he
    ·simp
    ·rw[hf.led _ hd e he,BB]
   ·rw[hf.led _ hx e he,BB]
 ·show x.links=(J1 x.ino (qv _ _):Int);rw[ze6 hR1 hn1];have hc:=Zm (m:=x.ino) (F:=zW s.name f.next) hf.rises hs.has;have hw:=Vb (m:=x.ino) (i:=f.next) (x:=zg s.dir f.xs) (hf.es _ hd) hs.free;have hz:Yb x.ino (⟨f.next,k,1,t,if k=2 then s.dir else 0,[]⟩:zn)=0:=rfl;have hw:Yb x.ino (qD (zg s.dir f.xs) (zW s.name f.next (zg s.dir f.xs).es))=Yb x.ino (zg s.dir f.xs)+if f.next=x.ino then 1 else 0:=hw;rw[hz];rcases qB.1 hx with rfl | ⟨hx,hxn⟩
  ·have h0:J1 f.next f.xs=0:=zji n2;have hw:Yb f.next (qD (zg s.dir f.xs) (zW s.name f.next (zg s.dir f.xs).es))=Yb f.next (zg s.dir f.xs)+if f.next=f.next then 1 else 0:=hw;rw[if_pos rfl]at hw;show (1:Int)=((J1 f.next (qr s.dir (zW s.name f.next) f.xs)+0:Nat):Int);have hc:J1 f.next (qr s.dir (zW s.name f.next) f.xs)+Yb f.next (zg s.dir f.xs)=J1 f.next f.xs+Yb f.next (qD (zg s.dir f.xs) (zW s.name f.next (zg s.dir f.xs).es)):=hc;omega
  ·have hxn:x.ino≠f.next:=hxn;rw[if_neg fun e=>hxn e.symm]at hw;have hl:x.links=(J1 x.ino f.xs:Int):=by
    rcases (qC hs.has).1 hx with rfl | ⟨hx,_⟩
    ·exact hf.links (zg s.dir f.xs) hd
    ·exact hf.links _ hx
   omega
 ·show zk 1 (qv _ _)=true;rw[jd,z7 hs.has,hf.root,BB]
 ·show (zg 1 (qv _ _)).kind=2;rw[qV];rw[if_neg (show ¬f.next=1 by omega),JY hs.has];split
  ·exact hs.kind
  ·exact hf.base
 ·show J1 1 (qv _ _)=0;rw[ze6 hR1 hn1];have hc:=Zm (m:=1) (F:=zW s.name f.next) hf.rises hs.has;have hw:Yb 1 (qD (zg s.dir f.xs) (zW s.name f.next (zg s.dir f.xs).es))=Yb 1 (zg s.dir f.xs)+if f.next=1 then 1 else 0:=Vb (m:=1) (i:=f.next) (x:=zg s.dir f.xs) (hf.es (zg s.dir f.xs) hd) hs.free;have hz:Yb 1 (⟨f.next,k,1,t,if k=2 then s.dir else 0,[]⟩:zn)=0:=rfl;have:=hf.bare;rw[if_neg (show ¬f.next=1 by omega)]at hw;omega
theorem zqy (hf:FsI f) {s:zO} (hs:YT f s) (k:Int) (hk:k=1∨k=2∨k=3) (t:Lz):FsI (Hw f s k t).1:=by
 unfold Hw;by_cases h1:may s.name=true
 ·rw[if_pos h1];by_cases h2:Yp f 1 (if k=1 then (t.length:Int) else 0)=true
  ·rw[if_pos h2];exact zn5 hf hs k hk t
  ·rw[if_neg h2];exact hf
 ·rw[if_neg h1];exact hf
theorem znS (hf:FsI f) {i:Int} (hh:zk i f.xs=true) (t:Lz):FsI (X4 f i t):=by
 have hg:=zi hh;have hmem:∀ {z:zn},z∈(X4 f i t).xs->∃ y∈f.xs,z.ino=y.ino/\z.kind=y.kind/\z.es=y.es/\z.links=y.links:=fun {z} hz=>by
  rcases qB.1 hz with rfl | ⟨hz,_⟩
  ·exact ⟨_,hg.2.1,rfl,rfl,rfl,rfl⟩
  ·exact ⟨_,hz,rfl,rfl,rfl,rfl⟩
 have hhas:∀ m,zk m (X4 f i t).xs=zk m f.xs:=fun m=>by
  show zk m (qv _ _)=_;rw[jd];show (decide ((zg i f.xs).ino=m)||_)=_;rw[hg.2.2];by_cases h:i=m
  ·subst h;rw[hh];simp
  ·simp[h]
 have hcnt:∀ m,J1 m (X4 f i t).xs=J1 m f.xs:=fun m=>by
  have h:=UN (m:=m) (x:={ zg i f.xs with data:=t }) hf.rises hh hg.2.2;have e:Yb m { zg i f.xs with data:=t }=Yb m (zg i f.xs):=rfl;show J1 m (qv _ _)=_;omega
 refine ⟨qf hf.rises,fun x hx=>?_,fun x hx=>?_,fun x hx=>?_,fun x hx hk2=>?_,fun x hx e he=>?_,fun x hx=>?_,by rw[hhas];exact hf.root,?_,?_⟩
 ·obtain ⟨y,hy,e1,_⟩:=hmem hx;rw[e1];exact hf.ino y hy
 ·obtain ⟨y,hy,_,e2,_⟩:=hmem hx;rw[e2];exact hf.kind y hy
 ·obtain ⟨y,hy,_,_,e3,_⟩:=hmem hx;rw[e3];exact hf.es y hy
 ·obtain ⟨y,hy,_,e2,e3,_⟩:=hmem hx;rw[e3];exact hf.file y hy (by rw[←e2];exact hk2)
 ·obtain ⟨y,hy,_,_,e3,_⟩:=hmem hx;rw[hhas];exact hf.led y hy e (by rw[←e3];exact he)
 ·obtain ⟨y,hy,e1,_,_,e4⟩:=hmem hx;rw[hcnt,e4,e1];exact hf.links y hy
 ·show (zg 1 (qv _ _)).kind=2;rw[qV];split
  ·rename_i h;have h:(zg i f.xs).ino=1:=h;rw[hg.2.2]at h;subst h;exact hf.base
  ·exact hf.base
 ·rw[hcnt];exact hf.bare
theorem znW (hf:FsI f) {s:zO} (hs:YT f s) {i:Int} (hi:zk i f.xs=true) (hk:(zg i f.xs).kind≠2):FsI (ZW f s i):=by
 have hd:=zi hs.has;have hx:=zi hi;have hne:s.dir≠i:=fun e=>hk (by rw[←e];exact hs.kind);have hR1:z8 (qr s.dir (zW s.name i) f.xs):=qf hf.rises;have hi1:zk i (qr s.dir (zW s.name i) f.xs)=true:=by rw[z7 hs.has];exact hi
 have hg1:zg i (qr s.dir (zW s.name i) f.xs)=zg i f.xs:=by rw[JY hs.has,if_neg hne]
 have hmem:∀ {z:zn},z∈(ZW f s i).xs->z = { zg i f.xs with links:=(zg i f.xs).links+1 }∨z=qD (zg s.dir f.xs) (zW s.name i (zg s.dir f.xs).es)∨(z∈f.xs/\z.ino≠s.dir/\z.ino≠i):=fun {z} hz=>by
  rcases qB.1 hz with rfl | ⟨hz,hzi⟩
  ·exact .inl rfl
  ·have hzi:z.ino≠(zg i f.xs).ino:=hzi;rw[hx.2.2]at hzi;rcases (qC hs.has).1 hz with rfl | ⟨hz,hzd⟩
   ·exact .inr (.inl rfl)
   ·exact .inr (.inr ⟨hz,hzd,hzi⟩)
 have hhas:∀ m,zk m (ZW f s i).xs=zk m f.xs:=fun m=>by
  show zk m (qv _ _)=_;rw[jd,z7 hs.has];show (decide ((zg i f.xs).ino=m)||_)=_;rw[hx.2.2];by_cases h:i=m
  ·subst h;rw[hi];simp
  ·simp[h]
 have hcnt:∀ m,J1 m (ZW f s i).xs=J1 m f.xs+if i=m then 1 else 0:=fun m=>by
  have h:=UN (m:=m) (x:={ zg i f.xs with links:=(zg i f.xs).links+1 }) hR1 hi1 hx.2.2;rw[hg1]at h;have e:Yb m { zg i f.xs with links:=(zg i f.xs).links+1 }=Yb m (zg i f.xs):=rfl;have hc:=Zm (m:=m) (F:=zW s.name i) hf.rises hs.has;have hw:Yb m (qD (zg s.dir f.xs) (zW s.name i (zg s.dir f.xs).es))=Yb m (zg s.dir f.xs)+if i=m then 1 else 0:=Vb (m:=m) (i:=i) (x:=zg s.dir f.xs) (hf.es (zg s.dir f.xs) hd.2.1) hs.free;show J1 m (qv _ _)=_;omega
 refine ⟨qf hR1,fun x hx'=>?_,fun x hx'=>?_,fun x hx'=>?_,fun x hx' hk2=>?_,fun x hx' e he=>?_,fun x hx'=>?_,by rw[hhas];exact hf.root,?_,?_⟩
 ·rcases hmem hx' with rfl | rfl | ⟨h,_⟩
  ·exact hf.ino (zg i f.xs) hx.2.1
  ·exact hf.ino (zg s.dir f.xs) hd.2.1
  ·exact hf.ino _ h
 ·rcases hmem hx' with rfl | rfl | ⟨h,_⟩
  ·exact hf.kind (zg i f.xs) hx.2.1
  ·exact hf.kind (zg s.dir f.xs) hd.2.1
  ·exact hf.kind _ h
 ·rcases hmem hx' with rfl | rfl | ⟨h,_⟩
  ·exact hf.es (zg i f.xs) hx.2.1
  ·exact VS (hf.es (zg s.dir f.xs) hd.2.1)
  ·exact hf.es _ h
 ·rcases hmem hx' with rfl | rfl | ⟨h,_⟩
  ·exact hf.file (zg i f.xs) hx.2.1 hk2
  ·exact absurd hs.kind hk2
  ·exact hf.file _ h hk2
 ·rw[hhas];rcases hmem hx' with rfl | rfl | ⟨h,_⟩
  ·exact hf.led (zg i f.xs) hx.2.1 e he
  ·rcases Yi he with rfl | he
   ·exact hi
   ·exact hf.led (zg s.dir f.xs) hd.2.1 e he
  ·exact hf.led _ h e he
 ·rw[hcnt];rcases hmem hx' with rfl | rfl | ⟨h,_,hzi⟩
  ·have:=hf.links (zg i f.xs) hx.2.1;show (zg i f.xs).links+1=((J1 (zg i f.xs).ino f.xs+if i=(zg i f.xs).ino then 1 else 0:Nat):Int);rw[if_pos hx.2.2.symm,this];rfl
  ·have:=hf.links (zg s.dir f.xs) hd.2.1;show (zg s.dir f.xs).links=((J1 (zg s.dir f.xs).ino f.xs+if i=(zg s.dir f.xs).ino then 1 else 0:Nat):Int);rw[if_neg (by rw[hd.2.2];exact fun e=>hne e.symm),this];rfl
  ·rw[if_neg fun e=>hzi e.symm];exact hf.links _ h
 ·show (zg 1 (qv _ _)).kind=2;rw[qV];split
  ·rename_i h;have h:(zg i f.xs).ino=1:=h;rw[hx.2.2]at h;subst h;exact hf.base
  ·rw[JY hs.has];split
   ·exact hs.kind
   ·exact hf.base
 ·rw[hcnt,hf.bare,if_neg fun e=>hk (by rw[e];exact hf.base)]
theorem QB (hf:FsI f) {s:zO} (hs:zX f s):s.ino≠1:=fun e =>
 ZD hf.bare _ (zi hs.has).2.1 _ (ql hs.there).2 e
theorem U8 (hf:FsI f) {s:zO} (hs:zX f s) (he:(zg s.ino f.xs).es = []):FsI (zI f s):=by
 have hi:=zX.ino hf hs;have hd:=zi hs.has;have hx:=zi hi;have hr:=QB hf hs;have hne:s.dir≠s.ino:=fun e=>by
  have:=(ql hs.there).2;rw[e,he]at this;cases this
 have hR1:z8 (qr s.dir (zj s.name) f.xs):=qf hf.rises;have hi1:zk s.ino (qr s.dir (zj s.name) f.xs)=true:=by rw[z7 hs.has];exact hi
 have hg1:zg s.ino (qr s.dir (zj s.name) f.xs)=zg s.ino f.xs:=by rw[JY hs.has,if_neg hne]
 have hc1:∀ m,J1 m (qr s.dir (zj s.name) f.xs)+(if s.ino=m then 1 else 0)=J1 m f.xs:=fun m=>by
  have hc:=Zm (m:=m) (F:=zj s.name) hf.rises hs.has;have hw:Yb m (zg s.dir f.xs)=Yb m (qD (zg s.dir f.xs) (zj s.name (zg s.dir f.xs).es))+if s.ino=m then 1 else 0:=Qy (m:=m) (i:=s.ino) (x:=zg s.dir f.xs) (hf.es (zg s.dir f.xs) hd.2.1) hs.there;omega
 have hlk:=hf.links (zg s.ino f.xs) hx.2.1;rw[hx.2.2]at hlk;have hci:=hc1 s.ino;rw[if_pos rfl]at hci;have hz:∀ m,Yb m (zg s.ino f.xs)=0:=fun m=>by unfold Yb;rw[he];rfl
 unfold zI;by_cases hl:(zg s.ino f.xs).links-1=0
 ·rw[if_pos hl];have hc0:J1 s.ino (qr s.dir (zj s.name) f.xs)=0:=by omega
  have hcnt:∀ m,J1 m (qh s.ino (qr s.dir (zj s.name) f.xs))=J1 m (qr s.dir (zj s.name) f.xs):=fun m=>by
   have:=zjE (m:=m) hR1 hi1;rw[hg1,hz]at this;omega
  have hmem:∀ {z:zn},z∈qh s.ino (qr s.dir (zj s.name) f.xs)->(z=qD (zg s.dir f.xs) (zj s.name (zg s.dir f.xs).es)∨(z∈f.xs/\z.ino≠s.dir))/\z.ino≠s.ino:=fun {z} hz=>by
   obtain ⟨hz,hzi⟩:=Xo.1 hz;exact ⟨(qC hs.has).1 hz,hzi⟩
  have hin:∀ {z:zn},z∈qh s.ino (qr s.dir (zj s.name) f.xs)->z∈qr s.dir (zj s.name) f.xs:=fun {z} hz=>(Xo.1 hz).1;refine ⟨Gw hR1,fun x hx'=>?_,fun x hx'=>?_,fun x hx'=>?_,fun x hx' hk2=>?_,fun x hx' e hee=>?_,fun x hx'=>?_,?_,?_,?_⟩
  ·rcases hmem hx' with ⟨rfl | ⟨h,_⟩,_⟩
   ·exact hf.ino (zg s.dir f.xs) hd.2.1
   ·exact hf.ino _ h
  ·rcases hmem hx' with ⟨rfl | ⟨h,_⟩,_⟩
   ·exact hf.kind (zg s.dir f.xs) hd.2.1
   ·exact hf.kind _ h
  ·rcases hmem hx' with ⟨rfl | ⟨h,_⟩,_⟩
   ·exact XP (hf.es (zg s.dir f.xs) hd.2.1)
   ·exact hf.es _ h
  ·rcases hmem hx' with ⟨rfl | ⟨h,_⟩,_⟩
   ·exact absurd hs.kind hk2
   ·exact hf.file _ h hk2
  ·show zk e.ino (qh _ _)=true;rw[Qw,z7 hs.has];have h1:e.ino≠s.ino:=ZD hc0 x (hin hx') e hee;rw[Wp h1];show zk e.ino f.xs=true;rcases hmem hx' with ⟨rfl | ⟨h,_⟩,_⟩
   ·exact hf.led (zg s.dir f.xs) hd.2.1 e (je hee).1
   ·exact hf.led _ h e hee
  ·show x.links=((J1 x.ino (qh _ _):Nat):Int);rw[hcnt];obtain ⟨h1,h2⟩:=hmem hx';have h3:=hc1 x.ino;rw[if_neg fun e=>h2 e.symm]at h3;have h4:x.links=(J1 x.ino f.xs:Int):=by
    rcases h1 with rfl | ⟨h,_⟩
    ·exact hf.links (zg s.dir f.xs) hd.2.1
    ·exact hf.links _ h
   omega
  ·show zk 1 (qh _ _)=true;rw[Qw,z7 hs.has,hf.root,Wp fun e=>hr e.symm];rfl
  ·show (zg 1 (qh _ _)).kind=2;rw[Hs,if_neg fun e=>hr e.symm,JY hs.has];split
   ·exact hs.kind
   ·exact hf.base
  ·show J1 1 (qh _ _)=0;rw[hcnt];have:=hc1 1;have:=hf.bare;omega
 ·rw[if_neg hl];have hmem:∀ {z:zn},z∈qv { zg s.ino f.xs with links:=(zg s.ino f.xs).links-1 } (qr s.dir (zj s.name) f.xs)->z = { zg s.ino f.xs with links:=(zg s.ino f.xs).links-1 }∨z=qD (zg s.dir f.xs) (zj s.name (zg s.dir f.xs).es)∨(z∈f.xs/\z.ino≠s.dir/\z.ino≠s.ino):=fun {z} hz=>by
   rcases qB.1 hz with rfl | ⟨hz,hzi⟩
   ·exact .inl rfl
   ·have hzi:z.ino≠(zg s.ino f.xs).ino:=hzi;rw[hx.2.2]at hzi;rcases (qC hs.has).1 hz with rfl | ⟨hz,hzd⟩
    ·exact .inr (.inl rfl)
    ·exact .inr (.inr ⟨hz,hzd,hzi⟩)
  have hhas:∀ m,zk m (qv { zg s.ino f.xs with links:=(zg s.ino f.xs).links-1 } (qr s.dir (zj s.name) f.xs))=zk m f.xs:=fun m=>by
   rw[jd,z7 hs.has];show (decide ((zg s.ino f.xs).ino=m)||_)=_;rw[hx.2.2];by_cases h:s.ino=m
   ·rw[←h,hi];simp
   ·simp[h]
  have hcnt:∀ m,J1 m (qv { zg s.ino f.xs with links:=(zg s.ino f.xs).links-1 } (qr s.dir (zj s.name) f.xs))=J1 m (qr s.dir (zj s.name) f.xs):=fun m=>by
   have h:=UN (m:=m) (x:={ zg s.ino f.xs with links:=(zg s.ino f.xs).links-1 }) hR1 hi1 hx.2.2;rw[hg1]at h;have e:Yb m { zg s.ino f.xs with links:=(zg s.ino f.xs).links-1 }=Yb m (zg s.ino f.xs):=rfl;omega
  refine ⟨qf hR1,fun x hx'=>?_,fun x hx'=>?_,fun x hx'=>?_,fun x hx' hk2=>?_,fun x hx' e hee=>?_,fun x hx'=>?_,by rw[hhas];exact hf.root,?_,?_⟩
  ·rcases hmem hx' with rfl | rfl | ⟨h,_⟩
   ·exact hf.ino (zg s.ino f.xs) hx.2.1
   ·exact hf.ino (zg s.dir f.xs) hd.2.1
   ·exact hf.ino _ h
  ·rcases hmem hx' with rfl | rfl | ⟨h,_⟩
   ·exact hf.kind (zg s.ino f.xs) hx.2.1
   ·exact hf.kind (zg s.dir f.xs) hd.2.1
   ·exact hf.kind _ h
  ·rcases hmem hx' with rfl | rfl | ⟨h,_⟩
   ·exact hf.es (zg s.ino f.xs) hx.2.1
   ·exact XP (hf.es (zg s.dir f.xs) hd.2.1)
   ·exact hf.es _ h
  ·rcases hmem hx' with rfl | rfl | ⟨h,_⟩
   ·exact he
   ·exact absurd hs.kind hk2
   ·exact hf.file _ h hk2
  ·rw[hhas];rcases hmem hx' with rfl | rfl | ⟨h,_⟩
   ·exact hf.led (zg s.ino f.xs) hx.2.1 e hee
   ·exact hf.led (zg s.dir f.xs) hd.2.1 e (je hee).1
   ·exact hf.led _ h e hee
  ·rw[hcnt];rcases hmem hx' with rfl | rfl | ⟨h,_,hzi⟩
   ·show (zg s.ino f.xs).links-1=((J1 (zg s.ino f.xs).ino (qr s.dir (zj s.name) f.xs):Nat):Int);rw[hx.2.2];omega
   ·have h3:=hc1 (zg s.dir f.xs).ino;have h4:=hf.links (zg s.dir f.xs) hd.2.1;rw[if_neg (by rw[hd.2.2];exact fun e=>hne e.symm)]at h3;show (zg s.dir f.xs).links=((J1 (zg s.dir f.xs).ino (qr s.dir (zj s.name) f.xs):Nat):Int);omega
   ·have h3:=hc1 x.ino;rw[if_neg fun e=>hzi e.symm]at h3;have h4:=hf.links _ h;omega
  ·show (zg 1 (qv _ _)).kind=2;rw[qV,if_neg (show ¬(zg s.ino f.xs).ino=1 by rw[hx.2.2];exact hr),JY hs.has];split
   ·exact hs.kind
   ·exact hf.base
  ·rw[hcnt];have:=hc1 1;have:=hf.bare;omega
end
section
theorem zaz (hf:FsI f) {ys:List zn} (hR:z8 ys) (hall:∀ z∈ys,∃ y∈f.xs,z.ino=y.ino/\z.kind=y.kind/\z.links=y.links/\JN z.es/\(z.kind≠2->z.es = [])/\∀ e∈z.es,zk e.ino f.xs=true)
  (hhas:∀ m,zk m ys=zk m f.xs) (hcnt:∀ m,J1 m ys=J1 m f.xs):FsI { f with xs:=ys }:=by
 refine ⟨hR,fun x hx=>?_,fun x hx=>?_,fun x hx=>?_,fun x hx hk=>?_,fun x hx e he=>?_,fun x hx=>?_,by rw[hhas];exact hf.root,?_,by rw[hcnt];exact hf.bare⟩
 ·obtain ⟨y,hy,e1,_⟩:=hall x hx;rw[e1];exact hf.ino y hy
 ·obtain ⟨y,hy,_,e2,_⟩:=hall x hx;rw[e2];exact hf.kind y hy
 ·obtain ⟨y,hy,_,_,_,e4,_⟩:=hall x hx;exact e4
 ·obtain ⟨y,hy,_,_,_,_,e5,_⟩:=hall x hx;exact e5 hk
 ·obtain ⟨y,hy,_,_,_,_,_,e6⟩:=hall x hx;rw[hhas];exact e6 e he
 ·obtain ⟨y,hy,e1,_,e3,_⟩:=hall x hx;rw[hcnt,e3,e1];exact hf.links y hy
 ·have h1:zk 1 ys=true:=by rw[hhas];exact hf.root
  obtain ⟨y,hy,e1,e2,_⟩:=hall _ (zi h1).2.1;rw[(zi h1).2.2]at e1;have e7:=(zm9 hf.rises).1 hy;rw[←e1,(zi hf.root).1]at e7;simp only[Option.some.injEq]at e7;show (zg 1 ys).kind=2;rw[e2,←e7];exact hf.base
theorem zmQ (hf:FsI f) {a b:zO} (ha:zX f a) (hb:YT f b):FsI (QY f a b):=by
 have hda:=zi ha.has;have hdb:=zi hb.has;have hai:=zX.ino hf ha;obtain ⟨g1,hg1⟩:∃ g1,qr a.dir (zj a.name) f.xs=g1:=⟨_,rfl⟩;obtain ⟨g2,hg2⟩:∃ g2,qr b.dir (zW b.name a.ino) g1=g2:=⟨_,rfl⟩;have hR1:z8 g1:=by rw[←hg1];exact qf hf.rises
 have hR2:z8 g2:=by rw[←hg2];exact qf hR1
 have hh1:∀ m,zk m g1=zk m f.xs:=fun m=>by rw[←hg1];exact z7 ha.has
 have hb1:zk b.dir g1=true:=by rw[hh1];exact hb.has
 have hh2:∀ m,zk m g2=zk m f.xs:=fun m=>by rw[←hg2,z7 hb1];exact hh1 m
 have hgb:zg b.dir g1=if a.dir=b.dir then qD (zg a.dir f.xs) (zj a.name (zg a.dir f.xs).es) else zg b.dir f.xs:=by rw[←hg1,JY ha.has]
 have hmem1:∀ {z:zn},z∈g1->z=qD (zg a.dir f.xs) (zj a.name (zg a.dir f.xs).es)∨(z∈f.xs/\z.ino≠a.dir):=fun {z} hz=>by rw[←hg1]at hz;exact (qC ha.has).1 hz
 have hmem2:∀ {z:zn},z∈g2->z=qD (zg b.dir g1) (zW b.name a.ino (zg b.dir g1).es)∨(z∈g1/\z.ino≠b.dir):=fun {z} hz=>by rw[←hg2]at hz;exact (qC hb1).1 hz
 have hal1:∀ z∈g1,∃ y∈f.xs,z.ino=y.ino/\z.kind=y.kind/\z.links=y.links/\JN z.es/\(z.kind≠2->z.es = [])/\∀ e∈z.es,zk e.ino f.xs=true:=fun z hz=>by
  rcases hmem1 hz with rfl | ⟨h,_⟩
  ·exact ⟨_,hda.2.1,rfl,rfl,rfl,XP (hf.es _ hda.2.1),fun hk=>absurd ha.kind hk,fun e he=>hf.led _ hda.2.1 e (je he).1⟩
  ·exact ⟨_,h,rfl,rfl,rfl,hf.es _ h,hf.file _ h,hf.led _ h⟩
 have hal2:∀ z∈g2,∃ y∈f.xs,z.ino=y.ino/\z.kind=y.kind/\z.links=y.links/\JN z.es/\(z.kind≠2->z.es = [])/\∀ e∈z.es,zk e.ino f.xs=true:=fun z hz=>by
  rcases hmem2 hz with rfl | ⟨h,_⟩
  ·obtain ⟨y,hy,e1,e2,e3,e4,e5,e6⟩:=hal1 _ (zi hb1).2.1;refine ⟨y,hy,e1,e2,e3,VS e4,fun hk=>?_,fun e he=>?_⟩
   ·have hk':(zg b.dir g1).kind≠2:=hk;have:(zg b.dir g1).kind=2:=by
     rw[hgb];split
     ·exact ha.kind
     ·exact hb.kind
    exact absurd this hk'
   ·rcases Yi he with rfl | he
    ·exact hai
    ·exact e6 e he
  ·exact hal1 z h
 have hfree:Xu b.name (zg b.dir g1).es=false:=by
  rw[hgb];split
  ·rename_i hab;show Xu b.name (zj a.name (zg a.dir f.xs).es)=false;rw[Or];intro h;have h1:=YV h;have h2:=(je (ql h1).2).1;have h3:Xu b.name (zg a.dir f.xs).es=true:=by
    unfold Xu Yo;exact OA.2 ⟨_,h2,by simp⟩
   have:=hb.free;rw[←hab,h3]at this;cases this
  ·exact hb.free
 have hc1:∀ m,J1 m g1+(if a.ino=m then 1 else 0)=J1 m f.xs:=fun m=>by
  have hc:=Zm (m:=m) (F:=zj a.name) hf.rises ha.has;have hw:Yb m (zg a.dir f.xs)=Yb m (qD (zg a.dir f.xs) (zj a.name (zg a.dir f.xs).es))+if a.ino=m then 1 else 0:=Qy (m:=m) (i:=a.ino) (x:=zg a.dir f.xs) (hf.es _ hda.2.1) ha.there;rw[hg1]at hc;omega
 have hc2:∀ m,J1 m g2=J1 m f.xs:=fun m=>by
  have hc:=Zm (m:=m) (F:=zW b.name a.ino) hR1 hb1;obtain ⟨_,_,_,_,_,e4,_⟩:=hal1 _ (zi hb1).2.1;have hw:Yb m (qD (zg b.dir g1) (zW b.name a.ino (zg b.dir g1).es))=Yb m (zg b.dir g1)+if a.ino=m then 1 else 0:=Vb (m:=m) (i:=a.ino) (x:=zg b.dir g1) e4 hfree;have:=hc1 m;rw[hg2]at hc;omega
 have key:FsI { f with xs:=g2 }:=zaz hf hR2 hal2 hh2 hc2;unfold QY;rw[hg1,hg2];show FsI (if (zg a.ino g2).kind=2 then _ else _);split
 ·have hia:zk a.ino g2=true:=by rw[hh2];exact hai
  have hx:=zi hia;refine zaz hf (qf hR2) (fun z hz=>?_) (fun m=>?_) (fun m=>?_)
  ·rcases qB.1 hz with rfl | ⟨hz,_⟩
   ·exact hal2 (zg a.ino g2) hx.2.1
   ·exact hal2 z hz
  ·rw[jd];show (decide ((zg a.ino g2).ino=m)||_)=_;rw[hx.2.2,hh2];by_cases h:a.ino=m
   ·rw[←h,hai];simp
   ·simp[h]
  ·have h:=UN (m:=m) (x:={ zg a.ino g2 with parent:=b.dir }) hR2 hia hx.2.2;have e:Yb m { zg a.ino g2 with parent:=b.dir }=Yb m (zg a.ino g2):=rfl;have:=hc2 m;omega
 ·exact key
theorem zlf {f:FsV} (hf:FsI f):∀ (ns:List Lz) (s:zO),(s.ino≠0->zk s.ino f.xs=true)->(atW f.xs ns s).2=0->ns≠[] ->
  zk (atW f.xs ns s).1.dir f.xs=true/\(zg (atW f.xs ns s).1.dir f.xs).kind=2/\(atW f.xs ns s).1.ino=zP (atW f.xs ns s).1.name (zg (atW f.xs ns s).1.dir f.xs).es/\(atW f.xs ns s).1.name∈ns
 | [],s,_,_,h=>absurd rfl h
 | n :: r,s,hs,h0,_=>by
  unfold atW at h0 ⊢;by_cases h1:s.ino=0
  ·rw[if_pos h1]at h0;cases h0
  rw[if_neg h1]at h0 ⊢;by_cases h2:(zg s.ino f.xs).kind≠2
  ·rw[if_pos h2]at h0;cases h0
  rw[if_neg h2]at h0 ⊢;have h2:(zg s.ino f.xs).kind=2:=Wy.1 h2;have hg:=zi (hs h1);have hnx:zP n (zg s.ino f.xs).es≠0->zk (zP n (zg s.ino f.xs).es) f.xs=true:=fun hne=>by
   have hh:Xu n (zg s.ino f.xs).es=true:=by
    unfold Xu;rw[jq];cases hq:jO z6.name n (zg s.ino f.xs).es with
    | some e=>rfl
    | none=>unfold zP at hne;rw[hq]at hne;exact absurd rfl hne
   exact hf.led _ hg.2.1 _ (ql (YV hh)).2
  cases r with
  | nil =>
   unfold atW;rw[hg.2.2];exact ⟨hs h1,h2,rfl,Wk⟩
  | cons m r =>
   obtain ⟨i1,i2,i3,i4⟩:=zlf hf (m :: r) ⟨(zg s.ino f.xs).ino,n,zP n (zg s.ino f.xs).es⟩ hnx h0 (by simp);exact ⟨i1,i2,i3,Wl _ i4⟩
theorem vY {f:FsV} (hf:FsI f):∀ (ns:List Lz) (s:zO),(s.ino≠0->zk s.ino f.xs=true)->(atW f.xs ns s).1.ino≠0->zk (atW f.xs ns s).1.ino f.xs=true
 | [],s,hs,h=>hs h
 | n :: r,s,hs,h=>by
  unfold atW at h ⊢;by_cases h1:s.ino=0
  ·rw[if_pos h1]at h;exact absurd rfl h
  rw[if_neg h1]at h ⊢;by_cases h2:(zg s.ino f.xs).kind≠2
  ·rw[if_pos h2]at h;exact absurd rfl h
  rw[if_neg h2]at h ⊢;have hg:=zi (hs h1);refine vY hf r _ (fun hne=>?_) h;have hne:zP n (zg s.ino f.xs).es≠0:=hne;have hh:Xu n (zg s.ino f.xs).es=true:=by
   unfold Xu;rw[jq];cases hq:jO z6.name n (zg s.ino f.xs).es with
   | some e=>rfl
   | none=>unfold zP at hne;rw[hq]at hne;exact absurd rfl hne
  exact hf.led _ hg.2.1 _ (ql (YV hh)).2
end
section
structure Vk (w:qR):Prop where
 fs:FsI w.fs
 kept:qT Jn zV.slot w.kept
 pool:z8 w.pool
 apart:∀ x∈w.pool,zk x.ino w.fs.xs=false/\x.ino<w.fs.next
theorem Uh (hf:FsI f) {n:Int} (h:zk n f.xs=true):n≠0:=fun e=>by
 have:=(hf.ino _ (zi h).2.1).1;rw[(zi h).2.2]at this;omega
theorem kg (hf:FsI f) {d:Int} (hd:zk d f.xs=true) {n:Lz} (h:Xu n (zg d f.xs).es=true):zk (zP n (zg d f.xs).es) f.xs=true:=
 hf.led _ (zi hd).2.1 _ (ql (YV h)).2
theorem zkv (hf:FsI f) {p:Lz} (hp:qO p=true) (h:(atV f p).2=0) :
  zk (atV f p).1.dir f.xs=true/\(zg (atV f p).1.dir f.xs).kind=2/\(atV f p).1.ino=zP (atV f p).1.name (zg (atV f p).1.dir f.xs).es/\(atV f p).1.name∈zm p:=by
 unfold qO at hp;simp only[Wt,Ar,Ow]at hp;unfold atV at h ⊢;rw[if_pos hp.1]at h ⊢;exact zlf hf (zm p) ⟨0,[],1⟩ (fun _=>hf.root) h hp.2
theorem jY (hf:FsI f) {p:Lz} (hp:qO p=true) (h:(isV f p true).2.2=0):zX f (isV f p true).1/\(isV f p true).2.1=zg (isV f p true).1.ino f.xs:=by
 unfold isV at h ⊢;simp only at h ⊢;by_cases h0:(atV f p).2≠0
 ·rw[if_pos h0]at h;exact absurd h h0
 rw[if_neg h0]at h;have h0:(atV f p).2=0:=Wy.1 h0;obtain ⟨a1,a2,a3,_⟩:=zkv hf hp h0;refine ⟨⟨a1,a2,?_⟩,trivial⟩;have hh:zk (atV f p).1.ino f.xs=true:=by
  cases hq:zk (atV f p).1.ino f.xs with
  | true=>rfl
  | false=>rw[hq]at h;simp at h
 have he:Xu (atV f p).1.name (zg (atV f p).1.dir f.xs).es=true:=by
  unfold Xu;rw[jq];cases hq:jO z6.name (atV f p).1.name (zg (atV f p).1.dir f.xs).es with
  | some e=>rfl
  | none =>
   unfold zP at a3;rw[hq]at a3;exact absurd a3 (Uh hf hh)
 rw[YV he,←a3]
theorem J2 (hf:FsI f) {p:Lz} (hp:qO p=true) (h:(isV f p false).2.2=0):YT f (isV f p false).1:=by
 unfold isV at h ⊢;simp only at h ⊢;by_cases h0:(atV f p).2≠0
 ·rw[if_pos h0]at h;exact absurd h h0
 rw[if_neg h0]at h;have h0:(atV f p).2=0:=Wy.1 h0;obtain ⟨a1,a2,a3,_⟩:=zkv hf hp h0;refine ⟨a1,a2,?_⟩;have hh:zk (atV f p).1.ino f.xs=false:=by
  cases hq:zk (atV f p).1.ino f.xs with
  | false=>rfl
  | true=>rw[hq]at h;simp at h
 rw[Or];intro he;have:=kg hf a1 he;rw[←a3,hh]at this;cases this
theorem Ym {o:OpV} (h:Mo o=true):qO o.a=true/\(zrG o.kind=true->qO o.b=true)/\1<=o.kind/\o.kind<=10:=by
 unfold Mo at h;simp only[Wt,W8]at h;obtain ⟨⟨⟨⟨⟨⟨h1,h2⟩,h3⟩,h4⟩,h5⟩,h6⟩,h7⟩:=h;exact ⟨h3,fun hb=>by rw[if_pos hb]at h5;exact h5,h1,h2⟩
theorem zm4 (hw:Vk w) {g:FsV} (hg:FsI g) (hn:w.fs.next<=g.next) (hh:∀ x∈w.pool,zk x.ino g.xs=false):Vk { w with fs:=g }:=
 ⟨hg,hw.kept,hw.pool,fun x hx=>⟨hh x hx,by have:=(hw.apart x hx).2;show x.ino<g.next;omega⟩⟩
theorem QR (f:FsV) (s:zO) (k:Int) (t:Lz):(Hw f s k t).1=f∨(Hw f s k t).1=Mj f s k t:=by
 unfold Hw;by_cases h1:may s.name=true
 ·rw[if_pos h1];by_cases h2:Yp f 1 (if k=1 then (t.length:Int) else 0)=true
  ·rw[if_pos h2];exact .inr rfl
  ·rw[if_neg h2];exact .inl rfl
 ·rw[if_neg h1];exact .inl rfl
theorem v7 (hw:Vk w) {p:Lz} (hp:qO p=true) {k:Int} (hk:k=1∨k=2∨k=3) (t:Lz):Vk (YG w p k t).1:=by
 unfold YG;by_cases h:(isV w.fs p false).2.2≠0
 ·rw[if_pos h];exact hw
 rw[if_neg h];have hs:=J2 hw.fs hp (Wy.1 h);refine zm4 hw (zqy hw.fs hs k hk t) ?_ ?_
 ·rcases QR w.fs (isV w.fs p false).1 k t with e | e
  ·rw[e];exact Ao _
  ·rw[e];show w.fs.next<=w.fs.next+1;omega
 ·intro x hx;obtain ⟨a1,a2⟩:=hw.apart x hx;rcases QR w.fs (isV w.fs p false).1 k t with e | e
  ·rw[e];exact a1
  ·rw[e];show zk x.ino (qv _ _)=false;rw[jd,z7 hs.has,a1];show (decide (w.fs.next=x.ino)||false)=false;rw[Wp (by omega)];rfl
theorem ki (hf:FsI f) {p:Lz} (hp:qO p=true) (h:(ju f p).2=0):zk (ju f p).1.ino f.xs=true/\(ju f p).1.kind=1/\(ju f p).1=zg (ju f p).1.ino f.xs:=by
 unfold ju at h ⊢;simp only at h ⊢;by_cases h0:(isV f p true).2.2≠0
 ·rw[if_pos h0]at h;exact absurd h h0
 rw[if_neg h0]at h;obtain ⟨h1,h2⟩:=jY hf hp (Wy.1 h0);have hi:=zX.ino hf h1;have hg:=zi hi;rw[h2]at h ⊢;rw[hg.2.2];refine ⟨hi,?_,rfl⟩;have hk:=hf.kind _ hg.2.1;by_cases h3:(zg (isV f p true).1.ino f.xs).kind=2
 ·rw[if_pos h3]at h;cases h
 rw[if_neg h3]at h;by_cases h4:(zg (isV f p true).1.ino f.xs).kind=3
 ·rw[if_pos h4]at h;cases h
 omega
theorem zeb {k:zV} (h:qT Jn zV.slot ks) (hn:zaW k.slot ks=false):qT Jn zV.slot (qK k ks):=
 VU h fun y hy e=>by
  unfold zaW Yo at hn;rw[Om]at hn;exact hn y hy (by simpa using e)
theorem Vv {s:zO} (h:zk s.dir f.xs=true) (hi:zk s.ino f.xs=true) (m:Int):zk m (zI f s).xs=if (zg s.ino f.xs).links-1=0 then (!decide (m=s.ino)&&zk m f.xs) else zk m f.xs:=by
 unfold zI;split
 ·show zk m (qh _ _)=_;rw[Qw,z7 h]
 ·show zk m (qv _ _)=_;rw[jd,z7 h];show (decide ((zg s.ino f.xs).ino=m)||_)=_;rw[(zi hi).2.2];by_cases e:s.ino=m
  ·rw[←e,hi];simp
  ·simp[e]
theorem Yu (f:FsV) (s:zO):(zI f s).next=f.next:=by unfold zI;split<;>rfl
theorem zgO (hw:Vk w) {n:Int} {s:zO} (hs:zX w.fs s) (he:(zg s.ino w.fs.xs).es = []):Vk (XN w n s).1:=by
 unfold XN;cases hn:zaW n w.kept with
 | true=>rw[if_pos rfl];exact hw
 | false =>
  rw[if_neg (by simp)];have hi:=zX.ino hw.fs hs;have hg:=zi hi;have hf:=U8 hw.fs hs he;refine ⟨hf,zeb hw.kept hn,?_,fun x hx=>?_⟩
  ·show z8 (if _ then _ else _);split
   ·exact qf hw.pool
   ·exact hw.pool
  ·show zk x.ino (zI w.fs s).xs=false/\x.ino<(zI w.fs s).next;rw[Vv hs.has hi,Yu];have hx:x∈(if (zg s.ino w.fs.xs).links=1 then qv { zg s.ino w.fs.xs with links:=0,parent:=0 } w.pool else w.pool):=hx;by_cases h1:(zg s.ino w.fs.xs).links=1
   ·rw[if_pos h1]at hx;rw[if_pos (by omega)];rcases qB.1 hx with rfl | ⟨hx,_⟩
    ·refine ⟨?_,?_⟩
     ·show (!decide ((zg s.ino w.fs.xs).ino=s.ino)&&_)=false;rw[hg.2.2];simp
     ·exact (hw.fs.ino _ hg.2.1).2
    ·obtain ⟨a1,a2⟩:=hw.apart x hx;rw[a1,O9];exact ⟨rfl,a2⟩
   ·rw[if_neg h1]at hx;rw[if_neg (by omega)];exact hw.apart x hx
theorem zrT (hw:Vk w) (o:OpV) (hk:o.kind<=7):Vk (doV w o).1:=by
 unfold doV;cases hm:Mo o with
 | false=>exact hw
 | true =>
  obtain ⟨p1,p2,k1,_⟩:=Ym hm;rw[if_neg (by simp)];by_cases h1:o.kind=1
  ·rw[if_pos h1];exact v7 hw p1 (.inr (.inl rfl)) []
  rw[if_neg h1];by_cases h2:o.kind=2
  ·rw[if_pos h2];unfold VR;split
   ·exact hw
   ·exact v7 hw (p2 (by rw[h2];rfl)) (.inl rfl) _
  rw[if_neg h2];by_cases h3:o.kind=3
  ·rw[if_pos h3];have pb:=p2 (by rw[h3];rfl);unfold QP;split
   ·exact hw
   ·split
    ·exact hw
    ·rename_i hfb;have hfb:=ki hw.fs pb (Wy.1 hfb);split
     ·exact hw
     ·split
      ·exact hw
      ·rename_i hkd;split
       ·exact hw
       ·rename_i hda;have hkd:=Wy.1 hkd;have hda:=Wy.1 hda;unfold JL at hkd ⊢;cases hn:zaW o.slot w.kept with
        | true=>rw[hn]at hkd;simp at hkd
        | false =>
         rw[if_neg (by simp)];unfold UV at hda ⊢;by_cases hr:Yp w.fs 0 (((ju w.fs o.a).1.data.length:Int)-(zg (ju w.fs o.b).1.ino w.fs.xs).data.length)=true
         ·rw[if_pos hr];have hfi:=znS hw.fs hfb.1 (ju w.fs o.a).1.data;refine ⟨hfi,zeb hw.kept hn,hw.pool,fun x hx=>⟨?_,(hw.apart x hx).2⟩⟩;show zk x.ino (qv _ _)=false;rw[jd,(hw.apart x hx).1];show (decide ((zg (ju w.fs o.b).1.ino w.fs.xs).ino=x.ino)||false)=false;rw[(zi hfb.1).2.2,Az,Ow];intro e;have:=(hw.apart x hx).1;rw[←e,hfb.1]at this;cases this
         ·rw[if_neg hr]at hda;cases hda
  rw[if_neg h3];by_cases h4:o.kind=4
  ·rw[if_pos h4];exact v7 hw p1 (.inr (.inr rfl)) _
  rw[if_neg h4];by_cases h5:o.kind=5
  ·rw[if_pos h5];have pb:=p2 (by rw[h5];rfl);unfold jV;simp only;split
   ·exact hw
   ·rename_i ha;obtain ⟨t1,t2⟩:=jY hw.fs p1 (Wy.1 ha);split
    ·exact hw
    ·rename_i hkd;split
     ·exact hw
     ·rename_i hb;have hfree:=J2 hw.fs pb (Wy.1 hb);have hi:=zX.ino hw.fs t1;rw[t2]at hkd;have e:(isV w.fs o.a true).2.1.ino=(isV w.fs o.a true).1.ino:=by rw[t2,(zi hi).2.2]
      rw[e];have hfi:=znW hw.fs hfree hi hkd;refine zm4 hw hfi (Ao _) fun x hx=>?_;show zk x.ino (qv _ _)=false;rw[jd,z7 hfree.has,(hw.apart x hx).1];show (decide ((zg (isV w.fs o.a true).1.ino w.fs.xs).ino=x.ino)||false)=false;rw[(zi hi).2.2,Az,Ow];intro e2;have:=(hw.apart x hx).1;rw[←e2,hi]at this;cases this
  rw[if_neg h5];by_cases h6:o.kind=6
  ·rw[if_pos h6];have pb:=p2 (by rw[h6];rfl);unfold Gv;split
   ·exact hw
   ·rename_i ha;split
    ·exact hw
    ·rename_i hb;obtain ⟨t1,t2⟩:=jY hw.fs p1 (Wy.1 ha);have hfree:=J2 hw.fs pb (Wy.1 hb);have hmv:=zmQ hw.fs t1 hfree;refine zm4 hw hmv ?_ fun x hx=>?_
     ·unfold QY;simp only;split<;>exact Ao _
     ·have hi:=zX.ino hw.fs t1;have hb1:zk (isV w.fs o.b false).1.dir (qr (isV w.fs o.a true).1.dir (zj (isV w.fs o.a true).1.name) w.fs.xs)=true:=by rw[z7 t1.has];exact hfree.has
      have h2:∀ m,zk m (qr (isV w.fs o.b false).1.dir (zW (isV w.fs o.b false).1.name (isV w.fs o.a true).1.ino) (qr (isV w.fs o.a true).1.dir (zj (isV w.fs o.a true).1.name) w.fs.xs))=zk m w.fs.xs:=fun m=>by rw[z7 hb1,z7 t1.has]
      unfold QY;simp only;split
      ·show zk x.ino (qv _ _)=false;have hi2:=h2 (isV w.fs o.a true).1.ino;rw[hi]at hi2;rw[jd,h2,(hw.apart x hx).1];show (decide ((zg (isV w.fs o.a true).1.ino _).ino=x.ino)||false)=false;rw[(zi hi2).2.2,Az,Ow];intro e2;have:=(hw.apart x hx).1;rw[←e2,hi]at this;cases this
      ·show zk x.ino (qr _ _ _)=false;rw[h2];exact (hw.apart x hx).1
  rw[if_neg h6];unfold jb;simp only;split
  ·exact hw
  ·rename_i ha;split
   ·exact hw
   ·rename_i hes;obtain ⟨t1,t2⟩:=jY hw.fs p1 (Wy.1 ha);rw[t2]at hes;exact zgO hw t1 (Wy.1 hes)
end
section
def Hr (N:Nat) (x:zn):Prop:=x.es.length<=N/\x.data.length<=5000/\∀ e∈x.es,e.name.length<=300
structure yE (N:Nat) (w:qR):Prop where
 len:w.fs.xs.length<=N
 node:∀ x∈w.fs.xs,Hr N x
 klen:w.kept.length<=N
 kdata:∀ k∈w.kept,k.data.length<=5000
 plen:w.pool.length<=N
 pnode:∀ x∈w.pool,Hr N x
 next:w.fs.next<=1099511627776+N
 room:w.fs.maxI<=1073741824/\w.fs.maxB<=1073741824/\-1073741824<=w.fs.maxI/\-1073741824<=w.fs.maxB
theorem Hr.up (h:Hr N x):Hr (N+1) x:=⟨OO h.1,h.2⟩
theorem yE.up (h:yE N w):yE (N+1) w:=
 ⟨OO h.len,fun x hx=>(h.node x hx).up,OO h.klen,h.kdata,OO h.plen,fun x hx=>(h.pnode x hx).up,by have:=h.next;omega,h.room⟩
theorem NV {n:Lz} (h:may n=true):n.length<=255:=by
 unfold may at h;simp only[Wt,W8]at h;exact h.1.1.1.2
theorem zew (n:Lz) (i:Int) (es:List z6):(zW n i es).length<=es.length+1:=by
 unfold zW;rw[UA];have:=xj (key:=z6.name) n es;omega
theorem Hi (h:Hr N x) {n:Lz} (hn:n.length<=300) (i:Int):Hr (N+1) (qD x (zW n i x.es)):=by
 refine ⟨?_,h.2.1,fun e he=>?_⟩
 ·have:=zew n i x.es;have:=h.1;show (zW n i x.es).length<=N+1;omega
 ·rcases Yi he with rfl | he
  ·exact hn
  ·exact h.2.2 e he
theorem V8 (h:Hr N x) (n:Lz):Hr N (qD x (zj n x.es)):=by
 refine ⟨?_,h.2.1,fun e he=>h.2.2 e (je he).1⟩;have:=xj (key:=z6.name) n x.es;have:=h.1;show (X0 z6.name n x.es).length<=N;omega
theorem j3 (h:∀ x∈xs,Hr N x) {n:Int} (hh:zk n xs=true):Hr N (zg n xs):=h _ (zi hh).2.1
theorem VJ (h:∀ x∈xs,Hr N x) (hx:Hr N x):∀ z∈qv x xs,Hr N z:=fun z hz=>by
 rcases qB.1 hz with rfl | ⟨hz,_⟩
 ·exact hx
 ·exact h z hz
theorem JI (hR:z8 xs) (hh:zk x.ino xs=true):(qv x xs).length=xs.length:=by rw[←vF hR hh];simp
theorem Jc {F:List z6->List z6} (hR:z8 xs) (hh:zk n xs=true):(qr n F xs).length=xs.length:=by
 unfold qr;refine JI hR ?_;show zk (zg n xs).ino xs=true;rw[(zi hh).2.2];exact hh
theorem zfs (hf:FsI f) {p:Lz} (hp:qO p=true) (h:(atV f p).2=0):(atV f p).1.name.length<=300:=by
 have h1:=(zkv hf hp h).2.2.2;unfold qO Yh at hp;simp only[Wt]at hp;have:=NV (WC.1 hp.1.2 _ h1);omega
theorem Vl {p:Lz} {b:Bool} (h:(isV f p b).2.2=0):(atV f p).2=0:=by
 unfold isV at h;simp only at h;by_cases h0:(atV f p).2≠0
 ·rw[if_pos h0]at h;exact h
 ·exact Wy.1 h0
theorem zmE (hw:Vk w) (hb:yE N w) {p:Lz} (hp:qO p=true) {k:Int} {t:Lz} (ht:t.length<=5000):yE (N+1) (YG w p k t).1:=by
 unfold YG;by_cases h:(isV w.fs p false).2.2≠0
 ·rw[if_pos h];exact hb.up
 rw[if_neg h];have h:=Wy.1 h;have hs:=J2 hw.fs hp h;unfold Hw;by_cases h1:may (isV w.fs p false).1.name=true
 ·rw[if_pos h1];by_cases h2:Yp w.fs 1 (if k=1 then (t.length:Int) else 0)=true
  ·rw[if_pos h2];have hl:=NV h1;refine ⟨?_,?_,by have:=hb.klen;show w.kept.length<=N+1;omega,hb.kdata,by have:=hb.plen;show w.pool.length<=N+1;omega,fun x hx=>(hb.pnode x hx).up,?_,hb.room⟩
   ·show (qv _ _).length<=N+1;refine WM zhk ?_;rw[Jc hw.fs.rises hs.has];have:=hb.len;omega
   ·refine VJ (fun z hz=>?_) ⟨Wc _,ht,fun e he=>by cases he⟩;rcases (qC hs.has).1 hz with rfl | ⟨hz,_⟩
    ·exact Hi (j3 hb.node hs.has) (by omega) _
    ·exact (hb.node z hz).up
   ·show w.fs.next+1<=_;have:=hb.next;omega
  ·rw[if_neg h2];exact hb.up
 ·rw[if_neg h1];exact hb.up
theorem fsB (hb:yE N w) {g:FsV} (h1:g.xs.length<=N+1) (h2:∀ x∈g.xs,Hr (N+1) x) (h3:g.next=w.fs.next) (h4:g.maxI=w.fs.maxI/\g.maxB=w.fs.maxB):yE (N+1) { w with fs:=g }:=
 ⟨h1,h2,OO hb.klen,hb.kdata,OO hb.plen,fun x hx=>(hb.pnode x hx).up,by show g.next<=_;rw[h3];have:=hb.next;omega,by show g.maxI<=_/\g.maxB<=_/\_<=g.maxI/\_<=g.maxB;rw[h4.1,h4.2];exact hb.room⟩
theorem M9 (k:zV) (ks:List zV):(qK k ks).length=ks.length+1:=UA k ks
theorem zng (hf:FsI f) (h1:f.xs.length<=N) (h2:∀ x∈f.xs,Hr N x) {s:zO} (hs:zX f s):(zI f s).xs.length<=N/\(∀ x∈(zI f s).xs,Hr N x)/\(zI f s).next=f.next/\(zI f s).maxI=f.maxI/\(zI f s).maxB=f.maxB:=by
 have hi:=zX.ino hf hs;have hd:∀ z∈qr s.dir (zj s.name) f.xs,Hr N z:=fun z hz=>by
  rcases (qC hs.has).1 hz with rfl | ⟨hz,_⟩
  ·exact V8 (j3 h2 hs.has) _
  ·exact h2 z hz
 have hl:=Jc (F:=zj s.name) hf.rises hs.has;unfold zI;split
 ·refine ⟨?_,fun x hx=>hd x (Xo.1 hx).1,rfl,rfl,rfl⟩;show (qh _ _).length<=N;exact WM Z1 (by rw[hl];exact h1)
 ·refine ⟨?_,VJ hd (j3 h2 hi),rfl,rfl,rfl⟩;show (qv _ _).length<=N;rw[JI (show z8 (qr s.dir (zj s.name) f.xs) from qf hf.rises) ?_,hl]
  ·exact h1
  ·show zk (zg s.ino f.xs).ino (qr _ _ _)=true;rw[(zi hi).2.2,z7 hs.has];exact hi
theorem doB (hw:Vk w) (hb:yE N w) (o:OpV) (hd:o.d.length<=5000) (hk:o.kind<=7):yE (N+1) (doV w o).1:=by
 unfold doV;cases hm:Mo o with
 | false=>exact hb.up
 | true =>
  obtain ⟨p1,p2,k1,_⟩:=Ym hm;rw[if_neg (by simp)];by_cases h1:o.kind=1
  ·rw[if_pos h1];exact zmE hw hb p1 (by simp)
  rw[if_neg h1];by_cases h2:o.kind=2
  ·rw[if_pos h2];unfold VR;split
   ·exact hb.up
   ·rename_i hfa;have hfa:=ki hw.fs p1 (Wy.1 hfa);refine zmE hw hb (p2 (by rw[h2];rfl)) ?_;rw[hfa.2.2];exact (j3 hb.node hfa.1).2.1
  rw[if_neg h2];by_cases h3:o.kind=3
  ·rw[if_pos h3];have pb:=p2 (by rw[h3];rfl);unfold QP;split
   ·exact hb.up
   ·rename_i hfa;have hfa:=ki hw.fs p1 (Wy.1 hfa);split
    ·exact hb.up
    ·rename_i hfb;have hfb:=ki hw.fs pb (Wy.1 hfb);split
     ·exact hb.up
     ·split
      ·exact hb.up
      ·rename_i hkd;split
       ·exact hb.up
       ·rename_i hda;have hkd:=Wy.1 hkd;have hda:=Wy.1 hda;unfold JL at hkd ⊢;cases hn:zaW o.slot w.kept with
        | true=>rw[hn]at hkd;simp at hkd
        | false =>
         rw[if_neg (by simp)];unfold UV at hda ⊢;by_cases hr:Yp w.fs 0 (((ju w.fs o.a).1.data.length:Int)-(zg (ju w.fs o.b).1.ino w.fs.xs).data.length)=true
         ·rw[if_pos hr];have hg:=zi hfb.1;refine ⟨?_,?_,?_,fun k hk=>?_,OO hb.plen,fun x hx=>(hb.pnode x hx).up,by have:=hb.next;show w.fs.next<=_;omega,hb.room⟩
          ·show (qv _ _).length<=N+1;rw[JI hw.fs.rises (by show zk (zg _ _).ino _=true;rw[hg.2.2];exact hfb.1)];exact OO hb.len
          ·refine VJ (fun z hz=>(hb.node z hz).up) ?_;have h7:=(j3 hb.node hfb.1).up;refine ⟨h7.1,?_,h7.2.2⟩;show (ju w.fs o.a).1.data.length<=5000;rw[hfa.2.2];exact (j3 hb.node hfa.1).2.1
          ·show (qK _ _).length<=N+1;rw[M9];have:=hb.klen;omega
          ·rcases QA.1 hk with rfl | hk
           ·exact (j3 hb.node hfb.1).2.1
           ·exact hb.kdata k hk
         ·rw[if_neg hr]at hda;cases hda
  rw[if_neg h3];by_cases h4:o.kind=4
  ·rw[if_pos h4];exact zmE hw hb p1 hd
  rw[if_neg h4];by_cases h5:o.kind=5
  ·rw[if_pos h5];have pb:=p2 (by rw[h5];rfl);unfold jV;simp only;split
   ·exact hb.up
   ·rename_i ha;obtain ⟨t1,t2⟩:=jY hw.fs p1 (Wy.1 ha);split
    ·exact hb.up
    ·split
     ·exact hb.up
     ·rename_i hb2;have hb2:=Wy.1 hb2;have hfree:=J2 hw.fs pb hb2;have hi:=zX.ino hw.fs t1;have e:(isV w.fs o.a true).2.1.ino=(isV w.fs o.a true).1.ino:=by rw[t2,(zi hi).2.2]
      rw[e];have hln:=zfs hw.fs pb (Vl hb2);refine fsB hb ?_ ?_ rfl ⟨rfl,rfl⟩
      ·show (qv _ _).length<=N+1;rw[JI (show z8 (qr (isV w.fs o.b false).1.dir (zW (isV w.fs o.b false).1.name (isV w.fs o.a true).1.ino) w.fs.xs) from qf hw.fs.rises) (by show zk (zg _ _).ino _=true;rw[(zi hi).2.2,z7 hfree.has];exact hi),Jc hw.fs.rises hfree.has];exact OO hb.len
      ·refine VJ (fun z hz=>?_) (j3 hb.node hi).up;rcases (qC hfree.has).1 hz with rfl | ⟨hz,_⟩
       ·exact Hi (j3 hb.node hfree.has) hln _
       ·exact (hb.node z hz).up
  rw[if_neg h5];by_cases h6:o.kind=6
  ·rw[if_pos h6];have pb:=p2 (by rw[h6];rfl);unfold Gv;split
   ·exact hb.up
   ·rename_i ha;split
    ·exact hb.up
    ·rename_i hb2;have hb2:=Wy.1 hb2;obtain ⟨t1,t2⟩:=jY hw.fs p1 (Wy.1 ha);have hfree:=J2 hw.fs pb hb2;have hi:=zX.ino hw.fs t1;have hln:=zfs hw.fs pb (Vl hb2);obtain ⟨g1,hg1⟩:∃ g1,qr (isV w.fs o.a true).1.dir (zj (isV w.fs o.a true).1.name) w.fs.xs=g1:=⟨_,rfl⟩;obtain ⟨g2,hg2⟩:∃ g2,qr (isV w.fs o.b false).1.dir (zW (isV w.fs o.b false).1.name (isV w.fs o.a true).1.ino) g1=g2:=⟨_,rfl⟩;have hR1:z8 g1:=by rw[←hg1];exact qf hw.fs.rises
     have hb1:zk (isV w.fs o.b false).1.dir g1=true:=by rw[←hg1,z7 t1.has];exact hfree.has
     have hn1:∀ z∈g1,Hr N z:=fun z hz=>by
      rw[←hg1]at hz;rcases (qC t1.has).1 hz with rfl | ⟨hz,_⟩
      ·exact V8 (j3 hb.node t1.has) _
      ·exact hb.node z hz
     have hn2:∀ z∈g2,Hr (N+1) z:=fun z hz=>by
      rw[←hg2]at hz;rcases (qC hb1).1 hz with rfl | ⟨hz,_⟩
      ·exact Hi (j3 hn1 hb1) hln _
      ·exact (hn1 z hz).up
     have hl2:g2.length=w.fs.xs.length:=by rw[←hg2,Jc hR1 hb1,←hg1,Jc hw.fs.rises t1.has]
     have hi2:zk (isV w.fs o.a true).1.ino g2=true:=by rw[←hg2,z7 hb1,←hg1,z7 t1.has];exact hi
     have hR2:z8 g2:=by rw[←hg2];exact qf hR1
     unfold QY;rw[hg1,hg2];simp only;split
     ·refine fsB hb ?_ (VJ hn2 (j3 hn2 hi2)) rfl ⟨rfl,rfl⟩;show (qv _ _).length<=N+1;rw[JI hR2 (by show zk (zg _ _).ino _=true;rw[(zi hi2).2.2];exact hi2),hl2];exact OO hb.len
     ·refine fsB hb ?_ hn2 rfl ⟨rfl,rfl⟩;show g2.length<=N+1;rw[hl2];exact OO hb.len
  rw[if_neg h6];unfold jb;simp only;split
  ·exact hb.up
  ·rename_i ha;split
   ·exact hb.up
   ·obtain ⟨t1,t2⟩:=jY hw.fs p1 (Wy.1 ha);have hi:=zX.ino hw.fs t1;unfold XN;split
    ·exact hb.up
    ·obtain ⟨u1,u2,u3,u4,u5⟩:=zng hw.fs hb.len hb.node t1;refine ⟨OO u1,fun x hx=>(u2 x hx).up,?_,fun k hk=>?_,?_,fun x hx=>?_,?_,?_⟩
     ·show (qK _ _).length<=N+1;rw[M9];have:=hb.klen;omega
     ·rcases QA.1 hk with rfl | hk
      ·exact Wc _
      ·exact hb.kdata k hk
     ·show (if _ then _ else _:List zn).length<=N+1;split
      ·exact WM zhk (by have:=hb.plen;omega)
      ·exact OO hb.plen
     ·have hx:x∈(if (zg (isV w.fs o.a true).1.ino w.fs.xs).links=1 then qv { zg (isV w.fs o.a true).1.ino w.fs.xs with links:=0,parent:=0 } w.pool else w.pool):=hx;split at hx
      ·exact VJ (x:={ zg (isV w.fs o.a true).1.ino w.fs.xs with links:=0,parent:=0 }) (fun z hz=>(hb.pnode z hz).up) (show Hr (N+1) _ from (j3 hb.node hi).up) x hx
      ·exact (hb.pnode x hx).up
     ·show (zI _ _).next<=_;rw[u3];have:=hb.next;omega
     ·show (zI _ _).maxI<=_/\(zI _ _).maxB<=_/\_<=(zI _ _).maxI/\_<=(zI _ _).maxB;rw[u4,u5];exact hb.room
end
section
open CA CB
open Go.RowKit
section
variable {G:zp}
theorem uv (f:FsV):Fun Tryz.prog G 277 [.agg (fsC f)] (.sc (.int .i64 (f.xs.length:Nat))) 0:=by
 refine fon Tryz.func277 ?_;dsimp only[Tryz.f277];push_cast;exact dn (by push_cast [ze,zd,CLe,zf,show (zu f.xs).length=f.xs.length from We ..])
theorem zbE (f:FsV) (hf:FsS f):Fun Tryz.prog G 278 [.agg (fsC f)] (.sc (.int .i64 (qe f.xs:Nat))) 0:=by
 have hll:(zu f.xs).length=f.xs.length:=We ..;have hb:=hf.bytes;have h4:=hf.len;have hb0:qe []=0:=rfl;have hmono:∀ i,qe (f.xs.take i)<=100000000:=fun i=>by
  have h1:=kM (xs:=f.xs.take i) (n:=10000) fun x hx=>(hf.node x (Ww hx)).2.1;have h2:(f.xs.take i).length<=10000:=by rw[W6];have:=hf.len;omega
  have:(f.xs.take i).length*10000<=10000*10000:=WS _ h2;omega
 refine fon Tryz.func278 ?_;dsimp only[Tryz.f278];push_cast;refine loop (fun i:Nat=>⟨[(1,.ptr 0 0),(3,.sc (.int .i64 (qe (f.xs.take i):Nat))),(7,.sc (.int .i64 (f.xs.length:Nat))),(8,.sc (.int .i64 i))],[fsC f],0,0⟩) (fun i=>i<=f.xs.length) (fun i=>f.xs.length-i) 0 (Wc _) ?_ ?_
 ·exact wk (by push_cast [ze,zd,CLe,zf,hb0,hll,Oy])
 ·intro i h1;by_cases h:i<f.xs.length
  ·have g1:=js f.xs i h;have ht:=Gj h;have hm:=hmono (i+1);have hm0:=hmono i;rw[ht]at hm;by_cases hk:f.xs[i].kind=1
   ·rw[if_pos hk]at ht hm;push_cast [hll,h,g1,hk]
    repeat refine an ?_
    exact ⟨i+1,h,by omega,wk (by push_cast [ze,zd,CLe,zf,ht])⟩
   ·rw[if_neg hk]at ht hm;push_cast [hll,h,g1,hk]
    repeat refine an ?_
    exact ⟨i+1,h,by omega,wk (by push_cast [ze,zd,CLe,zf,ht,Ag])⟩
  ·rw[Wh (by omega)];push_cast [hll,h];exact dn
theorem xD (f:FsV) (hf:FsS f) (n b:Int) (hn:-1000000000<=n/\n<=1000000000) (hb:-1000000000<=b/\b<=1000000000):Fun Tryz.prog G 255 [.agg (fsC f),.sc (.int .i64 n),.sc (.int .i64 b)] (.sc (.bool (Yp f n b))) 0:=by
 have h1:=uv (G:=G) f;have h2:=zbE (G:=G) f hf;have h3:=hf.bytes;have h4:=hf.len;by_cases c1:(f.xs.length:Int)+n<=f.maxI
 ·have e:Yp f n b=decide ((qe f.xs:Int)+b<=f.maxB):=by unfold Yp;rw[Wo c1,Ol]
  refine fon Tryz.func255 ?_;dsimp only[Tryz.f255];push_cast;refine cl h1 ?_;push_cast [c1]
  repeat refine an ?_
  refine cl h2 ?_;push_cast
  repeat refine an ?_
  exact dn (by push_cast [ze,zd,CLe,zf,e])
 ·have e:Yp f n b=false:=by unfold Yp;rw[Wp c1,Oa]
  refine fon Tryz.func255 ?_;dsimp only[Tryz.f255];push_cast;refine cl h1 ?_;push_cast [c1]
  repeat refine an ?_
  exact dn (by push_cast [ze,zd,CLe,zf,e])
end
end
section
open CA CB
open Go.RowKit
abbrev jL (s:zO):List C:=[.sc (.int .i64 s.dir),.str s.name,.sc (.int .i64 s.ino)]
theorem FsS.es (h:FsS f) {n:Int} (hh:zk n f.xs=true):(zg n f.xs).es.length<=10000:=(h.node _ (zi hh).2.1).1
theorem x5 {xs:List Lz} (h:k<xs.length):(zF xs)[k]?=some [.str xs[k]]:=by simp[Ws,Wa h]
theorem NX (f:FsV) (hf:FsI f) (hs:FsS f) (p:Lz) (hp:p.length<=1000000):Fun Tryz.prog G0 218 [.agg (fsC f),.str p] (.tup [.agg (jL (atV f p).1),.sc (.int .i64 (atV f p).2)]) 0:=by
 have hpl:=xn p (by omega);have hlen:=hs.len;have hnl:(zm p).length<=1000000:=by have:=qx p;omega
 cases hpp:Yh p with
 | false =>
  have e:atV f p=(qk,9):=by unfold atV;rw[hpp];rfl
  unfold YN at hpl;rw[hpp]at hpl;refine fon Tryz.func218 ?_;dsimp only[Tryz.f218];push_cast;refine cl hpl ?_;push_cast;exact dn (by push_cast [ze,zd,CLe,zf,e,qk])
 | true =>
  have e:atV f p=atW f.xs (zm p) ⟨0,[],1⟩:=by unfold atV;rw[hpp];rfl
  unfold YN at hpl;rw[hpp,if_pos rfl]at hpl;generalize zm p=ns at hpl hnl e;have hsl:(zF ns).length=ns.length:=We ..;refine fon Tryz.func218 ?_;dsimp only[Tryz.f218];push_cast;refine cl hpl ?_;push_cast;refine loop (fun x:Nat×zO=>⟨[(1,.str p),(2,.ptr 0 0),(4,.ptr 1 0),(8,.ptr 2 0),(24,.own 0 9 1 (zF ns)),(25,.sc (.int .i64 (ns.length:Nat))),(26,.sc (.int .i64 x.1))],[fsC f,[.sc (.int .i64 0),.str [],.sc (.int .i64 0)],jL x.2],1,0⟩)
   (fun x=>x.1<=ns.length/\atW f.xs ns ⟨0,[],1⟩=atW f.xs (ns.drop x.1) x.2/\(x.2.ino≠0->zk x.2.ino f.xs=true)) (fun x=>ns.length-x.1) (0,⟨0,[],1⟩) ⟨Wc _,rfl,fun _=>hf.root⟩ ?_ ?_
  ·exact wks [.inl 0] (by push_cast [ze,zd,CLe,zf,hsl])
  rintro ⟨k,s⟩ ⟨hk,hat,hin⟩;simp only at hk hat hin ⊢;by_cases hlt:k<ns.length
  ·have gs:=x5 hlt;have hdr:ns.drop k=ns[k] :: ns.drop (k+1):=Oe hlt;obtain ⟨nm,hnm⟩:∃ nm,ns[k]=nm:=⟨_,rfl⟩;rw[hnm]at gs hdr;have hg:=jp (G:=G0) f s.ino (by omega) hf.rises;cases hh:zk s.ino f.xs with
   | false =>
    have h0:s.ino=0:=AI fun hne=>by rw[hin hne]at hh;cases hh
    have hr:atV f p=(qk,1):=by rw[e,hat,hdr];unfold atW;rw[if_pos h0]
    rw[hh]at hg;push_cast [hlt,gs]
    repeat refine an ?_
    refine cl hg ?_;push_cast;exact dn (by push_cast [ze,zd,CLe,zf,hr,qk])
   | true =>
    have hn0:s.ino≠0:=Uh hf hh;have hgg:=zi hh;rw[hh]at hg;by_cases hk2:(zg s.ino f.xs).kind=2
    ·have hfd:=yx (G:=G0) (zg s.ino f.xs).es nm (by have:=hs.es hh;omega) (hf.es _ hgg.2.1);have hnx:atW f.xs ns ⟨0,[],1⟩=atW f.xs (ns.drop (k+1)) ⟨(zg s.ino f.xs).ino,nm,zP nm (zg s.ino f.xs).es⟩:=by
      rw[hat,hdr]
      conv=>lhs;unfold atW
      rw[if_neg hn0,if_neg (by simp[hk2])]
     have hin2:zP nm (zg s.ino f.xs).es≠0->zk (zP nm (zg s.ino f.xs).es) f.xs=true:=fun hne=>by
      refine kg hf hh ?_;unfold Xu;rw[jq];cases hq:jO z6.name nm (zg s.ino f.xs).es with
      | some e=>rfl
      | none=>unfold zP at hne;rw[hq]at hne;exact absurd rfl hne
     push_cast [hlt,gs]
     repeat refine an ?_
     refine cl hg ?_;push_cast [hk2];refine cl hfd ?_;push_cast
     repeat refine an ?_
     exact ⟨(k+1,⟨(zg s.ino f.xs).ino,nm,zP nm (zg s.ino f.xs).es⟩),⟨hlt,hnx,hin2⟩,by simp only;omega,wks [.inl 0]⟩
    ·have hr:atV f p=(qk,3):=by rw[e,hat,hdr];unfold atW;rw[if_neg hn0,if_pos hk2]
     push_cast [hlt,gs]
     repeat refine an ?_
     refine cl hg ?_;push_cast [hk2];exact dn (by push_cast [ze,zd,CLe,zf,hr,qk])
  ·have hr:atV f p=(s,0):=by rw[e,hat,OM (by omega)];unfold atW;rfl
   push_cast [hlt];exact dn (by push_cast [ze,zd,CLe,zf,hr])
end
section
open CA CB
open Go.RowKit
abbrev zq3 (f:FsV):Prop:=0<=f.next/\f.next<=4000000000000000000
theorem k7 (hf:FsI f):f.xs≠[]:=fun h=>by have:=hf.root;rw[h]at this;cases this
theorem kN (hf:FsI f) {n:Int} (hh:zk n f.xs=true):JN (zg n f.xs).es:=hf.es _ (zi hh).2.1
theorem Fun.argsLe {f:FuncId} {args':List C} {n:Nat} (h:Fun P G f args r n) (ha:∀ R vs,zy R zJ args' vs->zy R zJ args vs):Fun P G f args' r n:=
 ⟨h.1,fun R vs hg hv=>h.2 R vs hg (ha R vs hv)⟩
theorem zbs {R:Env} {L:Loc} {v:Value} (h:Rep R L (.sc (.slice none 0 0)) v):Rep R L (.sl k []) v:=by
 rw[zq]at h;subst h;unfold Rep;exact ⟨none,0,rfl,Wb _,Wc _,.inl rfl⟩
theorem zn0 (f:FsV) (x:zn) (hx:x.es = []) (hl:f.xs.length<=90000) (hR:z8 f.xs) :
  Fun Tryz.prog G 258 [.agg (fsC f),.agg [.sc (.int .i64 x.ino),.sc (.int .i64 x.kind),.sc (.int .i64 x.links),.str x.data,.sc (.int .i64 x.parent),.sc (.slice none 0 0)]] (.agg [.sc (.int .i64 f.maxI),.sc (.int .i64 f.maxB),.sc (.int .i64 f.next),.own 0 96 6 (zu (qv x f.xs))]) 1:=by
 refine (VC f x hl hR).argsLe fun R vs h=>?_;obtain ⟨v1,us1,rfl,h1,h⟩:=zh.1 h;obtain ⟨v2,us2,rfl,h2,h⟩:=zh.1 h;refine zh.2 ⟨_,_,rfl,h1,zh.2 ⟨_,_,rfl,?_,h⟩⟩;obtain ⟨ws,rfl,hw⟩:=j7.1 h2;obtain ⟨w1,t1,e1,g1,hw⟩:=zh.1 hw;obtain ⟨w2,t2,e2,g2,hw⟩:=zh.1 hw;obtain ⟨w3,t3,e3,g3,hw⟩:=zh.1 hw;obtain ⟨w4,t4,e4,g4,hw⟩:=zh.1 hw;obtain ⟨w5,t5,e5,g5,hw⟩:=zh.1 hw;obtain ⟨w6,t6,e6,g6,hw⟩:=zh.1 hw;refine j7.2 ⟨ws,rfl,?_⟩;have g6':Rep R zJ (.sl 2 (zQ x.es)) w6:=by rw[hx];exact zbs g6
 rw[e1,e2,e3,e4,e5,e6];exact zh.2 ⟨_,_,rfl,g1,zh.2 ⟨_,_,rfl,g2,zh.2 ⟨_,_,rfl,g3,zh.2 ⟨_,_,rfl,g4,zh.2 ⟨_,_,rfl,g5,zh.2 ⟨_,_,rfl,g6',hw⟩⟩⟩⟩⟩⟩
theorem zcA (f:FsV) (hf:FsI f) (hs:FsS f) (hn:zq3 f) (s:zO) (hsp:YT f s) (hnl:s.name.length<=100000) (k:Int) (t:Lz) (ht:t.length<=100000) :
  Fun Tryz.prog G0 225 [.agg (fsC f),.agg (jL s),.sc (.int .i64 k),.str t] (.tup [.agg (fsC (Hw f s k t).1),.sc (.int .i64 (Hw f s k t).2)]) 0:=by
 have hm:=v8 s.name (by omega);have hlen:=hs.len;cases hmay:may s.name with
 | false =>
  have e:Hw f s k t=(f,9):=by unfold Hw;rw[hmay];rfl
  rw[hmay]at hm;by_cases hk:k=1
  ·have hk':=eq_true hk;refine fof (fun j=>if j=14 then [false,false,false,false,false,true] else []) Tryz.func225 ?_;dsimp only[Tryz.f225];push_cast [hk'];refine cl hm ?_;push_cast;exact dn (by push_cast [ze,zd,CLe,zf,e])
  ·have hk':=WH hk;refine fof (fun j=>if j=14 then [false,false,false,false,false,true] else []) Tryz.func225 ?_;dsimp only[Tryz.f225];push_cast [hk'];refine cl hm ?_;push_cast;exact dn (by push_cast [ze,zd,CLe,zf,e])
 | true =>
  rw[hmay]at hm;have key:∀ b:Int,(if k=1 then (t.length:Int) else 0)=b->Yp f 1 b=false->Hw f s k t=(f,8):=fun b hb hr=>by unfold Hw;rw[hmay,if_pos rfl,hb,hr];rfl
  have key2:∀ b:Int,(if k=1 then (t.length:Int) else 0)=b->Yp f 1 b=true->Hw f s k t=(Mj f s k t,0):=fun b hb hr=>by unfold Hw;rw[hmay,if_pos rfl,hb,hr];rfl
  have hg:=jp (G:=G0) f s.dir (by omega) hf.rises;rw[hsp.has]at hg;have htk:=zjz (G:=G0) f (by omega) (k7 hf) (by have:=hn.1;omega) (by have:=hn.2;omega);have hes:=hs.es hsp.has;have hw:=xz (G:=G0) (zg s.dir f.xs).es s.name f.next (by omega) (kN hf hsp.has);have hd1:=VC (G:=G0) ⟨f.maxI,f.maxB,f.next+1,f.xs⟩ (qD (zg s.dir f.xs) (zW s.name f.next (zg s.dir f.xs).es)) (by simp only;omega) hf.rises;have hdl:(qr s.dir (zW s.name f.next) f.xs).length=f.xs.length:=Jc hf.rises hsp.has;have hd2:=fun pr:Int=>zn0 (G:=G0) ⟨f.maxI,f.maxB,f.next+1,qr s.dir (zW s.name f.next) f.xs⟩ ⟨f.next,k,1,t,pr,[]⟩ rfl (by simp only;omega) (qf hf.rises);have hx0:k=2->Mj f s k t=⟨f.maxI,f.maxB,f.next+1,qv ⟨f.next,k,1,t,s.dir,[]⟩ (qr s.dir (zW s.name f.next) f.xs)⟩:=fun h=>by unfold Mj;rw[if_pos h]
  have hx1:k≠2->Mj f s k t=⟨f.maxI,f.maxB,f.next+1,qv ⟨f.next,k,1,t,0,[]⟩ (qr s.dir (zW s.name f.next) f.xs)⟩:=fun h=>by unfold Mj;rw[if_neg h]
  unfold qr at hd2 hx0 hx1;by_cases hk:k=1
  ·have hk':=eq_true hk;have hk2:(k=2)=False:=WH (by omega);have hr:=xD (G:=G0) f hs 1 t.length (by omega) (by omega);cases hrm:Yp f 1 t.length with
   | false =>
    have e:=key _ (if_pos hk) hrm;rw[hrm]at hr;refine fof (fun j=>if j=14 then [false,false,false,false,false,true] else []) Tryz.func225 ?_;dsimp only[Tryz.f225];push_cast [hk'];refine cl hm ?_;push_cast;refine cl hr ?_;push_cast;exact dn (by push_cast [ze,zd,CLe,zf,e])
   | true =>
    have e:=key2 _ (if_pos hk) hrm;have ex:=hx1 (by omega);rw[hrm]at hr;refine fof (fun j=>if j=14 then [false,false,false,false,false,true] else []) Tryz.func225 ?_;dsimp only[Tryz.f225];push_cast [hk'];refine cl hm ?_;push_cast;refine cl hr ?_;push_cast;refine cl hg ?_;push_cast;refine cl htk ?_;push_cast [hk2];refine cl hw ?_;push_cast;refine cl hd1 ?_;push_cast;refine cl (hd2 0) ?_;push_cast;exact dn (by push_cast [ze,zd,CLe,zf,e,ex])
  ·have hk':=WH hk;have hr:=xD (G:=G0) f hs 1 0 (by omega) (by omega);cases hrm:Yp f 1 0 with
   | false =>
    have e:=key _ (if_neg hk) hrm;rw[hrm]at hr;refine fof (fun j=>if j=14 then [false,false,false,false,false,true] else []) Tryz.func225 ?_;dsimp only[Tryz.f225];push_cast [hk'];refine cl hm ?_;push_cast;refine cl hr ?_;push_cast;exact dn (by push_cast [ze,zd,CLe,zf,e])
   | true =>
    have e:=key2 _ (if_neg hk) hrm;rw[hrm]at hr;by_cases hk2:k=2
    ·have ex:=hx0 hk2;have hk2':=eq_true hk2;refine fof (fun j=>if j=14 then [false,false,false,false,false,true] else []) Tryz.func225 ?_;dsimp only[Tryz.f225];push_cast [hk'];refine cl hm ?_;push_cast;refine cl hr ?_;push_cast;refine cl hg ?_;push_cast;refine cl htk ?_;push_cast [hk2'];refine cl hw ?_;push_cast;refine cl hd1 ?_;push_cast;refine cl (hd2 s.dir) ?_;push_cast;exact dn (by push_cast [ze,zd,CLe,zf,e,ex])
    ·have ex:=hx1 hk2;have hk2':=WH hk2;refine fof (fun j=>if j=14 then [false,false,false,false,false,true] else []) Tryz.func225 ?_;dsimp only[Tryz.f225];push_cast [hk'];refine cl hm ?_;push_cast;refine cl hr ?_;push_cast;refine cl hg ?_;push_cast;refine cl htk ?_;push_cast [hk2'];refine cl hw ?_;push_cast;refine cl hd1 ?_;push_cast;refine cl (hd2 0) ?_;push_cast;exact dn (by push_cast [ze,zd,CLe,zf,e,ex])
end
section
open CA CB
open Go.RowKit
theorem zes {g:zn->Nat} {n:Nat}:∀ {xs:List zn},(∀ x∈xs,g x<=n)->Me g xs<=xs.length*n
 | [],_=>by simp[Me]
 | x :: r,h=>by
  have ih:=zes (g:=g) (n:=n) (xs:=r) fun y hy=>h y (Wl _ hy);have hx:=h x Wk;unfold Me at ih ⊢;simp only[Wm,OX,Wg];rw[AV];omega
theorem zap (hf:FsI f) (hs:FsS f) {n:Int} (hh:zk n f.xs=true):0<=(zg n f.xs).links/\(zg n f.xs).links<=100000000:=by
 have h1:=hf.links _ (zi hh).2.1;have h2:=zes (g:=Yb (zg n f.xs).ino) (n:=10000) (xs:=f.xs) fun x hx=>WM (OH _ _) (hs.node x hx).1;have h3:=hs.len;have h4:f.xs.length*10000<=10000*10000:=WS _ h3;unfold J1 at h1;omega
theorem zjl (f:FsV) (hf:FsI f) (hs:FsS f) (s:zO) (hsp:YT f s) (i:Int) (hi:zk i f.xs=true) (hne:s.dir≠i):Fun Tryz.prog G0 230 [.agg (fsC f),.agg (jL s),.sc (.int .i64 i)] (.agg (fsC (ZW f s i))) 0:=by
 have hlen:=hs.len;have hg:=jp (G:=G0) f s.dir (by omega) hf.rises;rw[hsp.has]at hg;have hes:=hs.es hsp.has;have hw:=xz (G:=G0) (zg s.dir f.xs).es s.name i (by omega) (kN hf hsp.has);have hd1:=VC (G:=G0) f (qD (zg s.dir f.xs) (zW s.name i (zg s.dir f.xs).es)) (by omega) hf.rises;have hdl:(qr s.dir (zW s.name i) f.xs).length=f.xs.length:=Jc hf.rises hsp.has;have hR1:z8 (qr s.dir (zW s.name i) f.xs):=qf hf.rises;have hg2:=jp (G:=G0) ⟨f.maxI,f.maxB,f.next,qr s.dir (zW s.name i) f.xs⟩ i (by simp only;omega) hR1;simp only at hg2;rw[z7 hsp.has,hi,JY hsp.has,if_neg hne]at hg2;have hl:=zap hf hs hi;have hd2:=VC (G:=G0) ⟨f.maxI,f.maxB,f.next,qr s.dir (zW s.name i) f.xs⟩ { zg i f.xs with links:=(zg i f.xs).links+1 } (by simp only;omega) hR1;have e:ZW f s i=⟨f.maxI,f.maxB,f.next,qv { zg i f.xs with links:=(zg i f.xs).links+1 } (qr s.dir (zW s.name i) f.xs)⟩:=rfl;unfold qr at hg2 hd2 e;refine fon Tryz.func230 ?_;dsimp only[Tryz.f230];push_cast;refine cl hg ?_;push_cast;refine cl hw ?_;push_cast;refine cl hd1 ?_;push_cast;refine cl hg2 ?_;push_cast
 repeat refine an ?_
 refine cl hd2 ?_;push_cast;exact dn (by push_cast [ze,zd,CLe,zf,e])
theorem zb4 (f:FsV) (hf:FsI f) (hs:FsS f) (s:zO) (hsp:zX f s) (hne:s.dir≠s.ino):Fun Tryz.prog G0 233 [.agg (fsC f),.agg (jL s)] (.agg (fsC (zI f s))) 0:=by
 have hi:=zX.ino hf hsp;have hlen:=hs.len;have hg:=jp (G:=G0) f s.dir (by omega) hf.rises;rw[hsp.has]at hg;have hes:=hs.es hsp.has;have hhe:Yo z6.name s.name (zg s.dir f.xs).es=true:=by rw[jq,hsp.there];rfl
 have hw:=xq (G:=G0) (zg s.dir f.xs).es s.name (by omega) (kN hf hsp.has) hhe;have hd1:=VC (G:=G0) f (qD (zg s.dir f.xs) (zj s.name (zg s.dir f.xs).es)) (by omega) hf.rises;have hdl:(qr s.dir (zj s.name) f.xs).length=f.xs.length:=Jc hf.rises hsp.has;have hR1:z8 (qr s.dir (zj s.name) f.xs):=qf hf.rises;have hg2:=jp (G:=G0) ⟨f.maxI,f.maxB,f.next,qr s.dir (zj s.name) f.xs⟩ s.ino (by simp only;omega) hR1;simp only at hg2;rw[z7 hsp.has,hi,JY hsp.has,if_neg hne]at hg2;have hl:=zap hf hs hi;have hxi:=(zi hi).2.2;have hd2:=VC (G:=G0) ⟨f.maxI,f.maxB,f.next,qr s.dir (zj s.name) f.xs⟩ { zg s.ino f.xs with links:=(zg s.ino f.xs).links-1 } (by simp only;omega) hR1;have hd3:=zkQ (G:=G0) ⟨f.maxI,f.maxB,f.next,qr s.dir (zj s.name) f.xs⟩ s.ino (by simp only;omega) hR1 (by intro h;have h0:f.xs = []:=Ak.1 (by rw[←hdl];exact WA List.length h);exact k7 hf h0);have e0:zI f s=if (zg s.ino f.xs).links-1=0 then ⟨f.maxI,f.maxB,f.next,qh s.ino (qr s.dir (zj s.name) f.xs)⟩ else ⟨f.maxI,f.maxB,f.next,qv { zg s.ino f.xs with links:=(zg s.ino f.xs).links-1 } (qr s.dir (zj s.name) f.xs)⟩:=rfl;unfold qr at hg2 hd2 hd3 e0;by_cases hz:(zg s.ino f.xs).links-1=0
 ·rw[if_pos hz]at e0;have hz':=eq_true hz;rw[←hxi]at hd3;refine fon Tryz.func233 ?_;dsimp only[Tryz.f233];push_cast;refine cl hg ?_;push_cast;refine cl hw ?_;push_cast;refine cl hd1 ?_;push_cast;refine cl hg2 ?_;push_cast [hz']
  repeat refine an ?_
  refine cl hd3 ?_;push_cast;exact dn (by push_cast [ze,zd,CLe,zf,e0,hxi])
 ·rw[if_neg hz]at e0;have hz':=WH hz;refine fon Tryz.func233 ?_;dsimp only[Tryz.f233];push_cast;refine cl hg ?_;push_cast;refine cl hw ?_;push_cast;refine cl hd1 ?_;push_cast;refine cl hg2 ?_;push_cast [hz']
  repeat refine an ?_
  refine cl hd2 ?_;push_cast;exact dn (by push_cast [ze,zd,CLe,zf,e0])
end
section
open CA CB
open Go.RowKit
end
section
open Go.RowKit
section
variable {G:zp}
theorem GO (rows:List (List C)) (hk:∀ r∈rows,r.length=4) (hs:jl rows) (hl:rows.length<=100000) :
  Y8 Tryz.prog G 267 [.sl 4 rows] [] 0 (zhf 4 rows):=by
 refine Y8.bySlice (fun h=>?_) (fun h a cap hr=>?_)
 ·refine foX (fun i=>if i=1000000+25 then [true,true] else []) Tryz.func267 ?_;dsimp only[Tryz.f267];push_cast;refine ⟨h,QZ kz UO rfl rfl (by decide) rfl (zK hk) rfl (Wb _) (Wb _) (by omega) (by omega) (fun hc=>absurd hc ?_) (fun _ c hc hm=>?_)⟩
  ·have:=WE.2 h;omega
  ·push_cast;rw[Ox]at hc;refine ⟨_,_,_,⟨⟨rfl,.inl ⟨h,c,hc,hm,rfl,rfl⟩⟩,Wc _⟩,[],rfl,rfl,?_,by push_cast [ze,zd,CLe,zf]⟩;push_cast [ze,zd,CLe,zf];exact zT (zG hs)
 ·cases a with
  | none =>
   refine foX (fun i=>if i=1000000+25 then [true,true] else []) Tryz.func267 ?_;dsimp only[Tryz.f267];push_cast [hr,BW];exact ⟨_,_,_,⟨⟨rfl,.inr ⟨h,.inl ⟨rfl,rfl⟩⟩⟩,Wc _⟩,[],rfl,rfl,by push_cast [ze,zd,CLe,zf],by push_cast [ze,zd,CLe,zf]⟩
  | some a =>
   refine foX (fun i=>if i=1000000+25 then [true,true] else []) Tryz.func267 ?_;dsimp only[Tryz.f267];push_cast [hr,BX];have hx:C.xs? 4 [[]] (C.sc (.slice (some a) 0 cap))=some (0,[]):=by simp[C.xs?,hr]
   refine QZ kz UO hx rfl (by decide) rfl rfl rfl (Wb _) (Wb _) (by omega) (by omega) (fun _=>?_) (fun hc=>absurd hc (by omega));push_cast;exact ⟨_,_,_,⟨⟨rfl,.inr ⟨h,.inr ⟨rfl,rfl⟩⟩⟩,Wc _⟩,[],rfl,rfl,by (push_cast [ze,zd,CLe,zf];simp[spl,zf]),by push_cast [ze,zd,CLe,zf]⟩
theorem UJ (rows:List (List C)) (x:List C) (i c e:Nat) (hk:∀ r∈rows,r.length=4) (hx:x.length=4) (hs:jl rows) (hsx:(x.all C.stayB)=true) (hl:rows.length<=100000) (hi:i<=rows.length) (hc:rows.length<=c) (hcm:c<=9223372036854775807) :
  Y8 Tryz.prog G 266 [.bs 0 0 4 rows.length c,.sc (.int .i64 i),.own 0 e 4 [x]] [qA 4 rows c] 1 (zrx 4 (c*4) (rows.take i++x :: rows.drop i)):=by
 refine foX (fun j=>if j=1000000+25 then [true,true] else if j=11 then [false,false,false,false,false,false,false,false,true] else if j=15 then [false,false,false,false,false,false,false,false,true] else []) Tryz.func266 ?_;dsimp only[Tryz.f266];push_cast;have hlen:(rows.take i++x :: rows.drop i).length=rows.length+1:=by simp;omega
 have hki:∀ r∈rows.take i++x :: rows.drop i,r.length=4:=fun r hr=>by
  rcases WG.1 hr with hr | hr
  ·exact hk r (Ww hr)
  ·rcases WK.1 hr with rfl | hr
   ·exact hx
   ·exact hk r (WU hr)
 have hsi:jl (rows.take i++x :: rows.drop i):=fun r hr=>by
  rcases WG.1 hr with hr | hr
  ·exact hs r (Ww hr)
  ·rcases WK.1 hr with rfl | hr
   ·exact hsx
   ·exact hs r (WU hr)
 have hbl:=JG hk hc;have hfl:=zK hk;have hxl:[x].flatten.length=1*4:=by simp[hx]
 have hpre:(qA 4 rows c).take rows.flatten.length=rows.flatten:=by unfold qA;rw[By]
 refine ⟨hc,⟨by omega,hi⟩,br (fun h=>?_) (fun h=>?_)⟩
 ·push_cast;refine QZ kz UO rfl rfl (by decide) rfl hxl rfl (by rw[hbl];omega) hc (by simp;omega) (by simp;omega) (fun h1=>?_) (fun h1 c' h2 h3=>?_)
  ·push_cast;have hi':i=rows.length:=WQ h;refine ⟨_,_,_,⟨⟨rfl,c,by rw[hlen];exact h1,hcm,.inl ⟨rfl,rfl⟩⟩,Wb _⟩,[],rfl,rfl,?_,by push_cast [ze,zd,CLe,zf,hlen]⟩;push_cast [ze,zd,CLe,zf];have h6:rows.length*4+4<=c*4:=by have:rows.length+1<=c:=h1;omega
   refine Jz hki hsi (by rw[hlen];exact h1) (by rw[Zq (by rw[hbl,hx];exact h6),hbl]) ?_;rw[hlen,hi',Of,AO];unfold spl;rw[←hfl,hpre,OJ (by simp[hx,hfl];omega)];simp
  ·push_cast;have hi':i=rows.length:=WQ h;have h2':rows.length+1<=c':=h2;refine ⟨_,_,_,⟨⟨rfl,c',by rw[hlen];exact h2,h3,.inr ⟨rfl,rfl⟩⟩,OR rfl⟩,[],rfl,rfl,?_,by push_cast [ze,zd,CLe,zf,hlen]⟩;push_cast [ze,zd,CLe,zf];refine ⟨XC hbl,Jz hki hsi (by rw[hlen];exact h2) (by simp[hx,hbl];omega) ?_⟩;rw[hlen,hi',Of,AO,←hfl,hpre,OJ (by simp[hx,hfl];omega)];simp
 ·have hne:i≠rows.length:=OP h;push_cast;refine ⟨⟨by omega,by omega⟩,br (fun h1=>?_) (fun h1=>?_)⟩
  ·have h1':(c:Int)<(rows.length:Int)+1:=WQ h1;push_cast
   repeat refine an ?_
   refine zmn kz zoA UO rfl (by decide) rfl rfl (by rw[hbl];omega) (by omega) (by omega) (by omega) (by omega) (by omega) (fun c' B h2 h3 hBl hBt=>?_);have e1:((rows.length:Int)+1-(i:Int)).toNat=rows.length+1-i:=by omega
   rw[e1]at h2 ⊢;have e2:i+(rows.length+1-i)=rows.length+1:=by omega
   rw[e2]at h2 ⊢;push_cast
   repeat refine an ?_
   refine XR kz UO rfl rfl hxl (by rw[hBl];omega) (fun B1 hB1 hl1=>?_);rw[hBl]at hl1;push_cast
   repeat refine an ?_
   have hbp:=XI (c:=c) hk hi;refine XR kz UO (Hq rfl (by rw[hbl];omega)) rfl (by rw[hbp,WZ,hfl];omega) (by rw[hl1];omega) (fun B2 hB2 hl2=>?_);rw[hl1]at hl2;have hX:[x].flatten.take (min [x].length (rows.length+1-i)*4)=x:=by
    rw[Ae,OI (by omega),Wh (by omega)];simp
   rw[hX]at hB1;rw[hbp,show min (rows.length-i) (rows.length-i)*4=(rows.length-i)*4 by omega,Wh (by rw[WZ,hfl];omega),hB1]at hB2;push_cast;refine ⟨_,_,_,⟨⟨rfl,c',by rw[hlen];exact h2,h3,.inr ⟨rfl,rfl⟩⟩,OR rfl⟩,[],rfl,rfl,?_,by push_cast [ze,zd,CLe,zf,hlen]⟩;push_cast [ze,zd,CLe,zf];refine ⟨XC hbl,Jz hki hsi (by rw[hlen];exact h2) hl2 ?_⟩;rw[hlen,←QL hk,hB2];have hg:=G5 (cs:=B) (L:=rows.flatten) (X:=x) (p:=i*4) (q:=(i+1)*4) (by omega) (by omega) (by
    rw[hBt,AQ];unfold qA;rw[OS (by omega)]) (by omega)
   rw[hfl,hx]at hg;rw[←hg];congr 1;omega
  ·have h1':¬(c:Int)<(rows.length:Int)+1:=OP h1;push_cast
   repeat refine an ?_
   refine zl7 (vS (P:=Tryz.prog) (tR:=4) Tryz.func285 (by kernel_rfl) (by kernel_rfl) (by kernel_rfl) (by kernel_rfl) kz UO rfl (Bi (by rw[hbl];omega)) (by simp) (by omega)) ?_;push_cast
   repeat refine an ?_
   have hbp:=XI (c:=c) hk hi;refine XR kz UO (Hq rfl (by rw[hbl];omega)) rfl (by simp[hbl];omega) (by rw[hbl];omega) (fun B1 hB1 hl1=>?_);rw[hbl]at hl1;rw[BY,OI (by omega),show min (rows.length+1-i) (rows.length-i)*4=(rows.length-i)*4 by omega,hbp]at hB1;push_cast
   repeat refine an ?_
   refine XR kz UO rfl rfl hxl (by rw[hl1];omega) (fun B2 hB2 hl2=>?_);rw[hl1]at hl2;have hX:[x].flatten.take (min [x].length (rows.length+1-i)*4)=x:=by
    rw[Ae,OI (by omega),Wh (by omega)];simp
   rw[hX,hB1]at hB2;push_cast;have hcc:rows.length+1<=c:=by omega
   refine ⟨_,_,_,⟨⟨rfl,c,by rw[hlen];exact hcc,hcm,.inl ⟨rfl,rfl⟩⟩,OR rfl⟩,[],rfl,rfl,?_,by push_cast [ze,zd,CLe,zf,hlen]⟩;push_cast [ze,zd,CLe,zf];refine Jz hki hsi (by rw[hlen];exact hcc) hl2 ?_;rw[hlen,←QL hk,hB2];have hg:=Hu (cs:=qA 4 rows c) (L:=rows.flatten) (X:=x) (p:=i*4) (q:=(i+1)*4) (by omega) (by omega) hpre (by omega);rw[hfl,hx]at hg;rw[←hg];congr 1;omega
theorem zbg {e:Nat} (x:List C) (hx:x.length=4) (hsx:(x.all C.stayB)=true) :
  Y8 Tryz.prog G 266 [.sc (.slice none 0 0),.sc (.int .i64 0),.own 0 e 4 [x]] [] 1 (fun r bx' n=>n=0/\∃ c,1<=c/\c<=9223372036854775807/\r = .bs 0 0 4 1 c/\bx' = [qA 4 [x] c]):=by
 refine foX (fun j=>if j=1000000+25 then [true,true] else if j=11 then [false,false,false,false,false,false,false,false,true] else if j=15 then [false,false,false,false,false,false,false,false,true] else []) Tryz.func266 ?_;dsimp only[Tryz.f266];push_cast;refine Nu kz UO rfl rfl (by decide) rfl (by simp[hx]) (by simp) (by simp) (by simp) (fun c h1 h2=>?_);push_cast;refine ⟨_,_,_,⟨⟨rfl,c,h1,h2,rfl,rfl⟩,Wc _⟩,[],rfl,rfl,?_,by push_cast [ze,zd,CLe,zf]⟩;push_cast [ze,zd,CLe,zf];have:=zT (src:=[]) (n:=1) (zG (k:=4) (c:=c) (rows:=[x]) fun r hr=>by
  rw[Ob.1 hr];exact hsx)
 unfold qA at this ⊢;simpa using this
end
end
section
open CA CB
open Go.RowKit
abbrev JB (k:zV):List C:=[.sc (.int .i64 k.slot),.sc (.int .i64 k.ino),.sc (.bool k.content),.str k.data]
abbrev zL (ks:List zV):List (List C):=ks.map JB
theorem JJ (ks:List zV) (i:Nat) (h:i<ks.length):(zL ks)[i]?=some (JB ks[i]):=by simp[Ws,Wa h]
abbrev Mi (w:qR):List C:=[.sc (.int .i64 w.fs.maxI),.sc (.int .i64 w.fs.maxB),.sc (.int .i64 w.fs.next),.sl 6 (zu w.fs.xs),.sl 4 (zL w.kept),.sl 6 (zu w.pool)]
abbrev XX (w:qR):C:=.agg (Mi w)
theorem zgY (a b:Int):UI a b<0↔Jn.lt a b=true:=by
 show UI a b<0↔decide (a<b)=true;unfold UI;rw[W8];split
 ·simp;assumption
 ·split<;>omega
theorem zff (a b:Int):UI a b=0↔a=b:=by
 unfold UI;split
 ·constructor
  ·intro h;cases h
  ·intro h;omega
 ·split
  ·constructor
   ·intro h;cases h
   ·intro h;omega
  ·constructor
   ·intro _;omega
   ·intro _;rfl
section
variable {G:zp}
theorem zkj (k:zV):Fun Tryz.prog G 261 [.agg (JB k)] (.sc (.int .i64 k.slot)) 0:=by
 refine fon Tryz.func261 ?_;dsimp only[Tryz.f261];push_cast;exact dn
theorem zad (k:zV) (n:Int):Fun Tryz.prog G 282 [.agg (JB k),.sc (.int .i64 n),.row [.clo (.func 261) [] []]] (.sc (.int .i64 (UI k.slot n))) 0:=by
 refine fon Tryz.func282 ?_;dsimp only[Tryz.f282];push_cast;refine cl (zkj k) ?_;push_cast;refine cl (vH k.slot n) ?_;push_cast;exact dn
theorem Mw (ks:List zV) (n:Int) (hl:ks.length<=100000) (hR:qT Jn zV.slot ks) :
  Fun Tryz.prog G 281 [.sl 4 (zL ks),.sc (.int .i64 n),.clo (.func 282) [] [.row [.clo (.func 261) [] []]]] (.tup [.sc (.int .i64 (qu Jn zV.slot n ks:Nat)),.sc (.bool (Yo zV.slot n ks))]) 0:=by
 refine fon Tryz.func281 ?_;dsimp only[Tryz.f281];push_cast;refine loop (fun p:Nat×Nat=>⟨[(0,.sl 4 (zL ks)),(1,.sc (.int .i64 n)),(2,.clo (.func 282) [] [.row [.clo (.func 261) [] []]]),(8,.sc (.int .i64 (ks.length:Nat))),(9,.sc (.int .i64 p.1)),(10,.sc (.int .i64 p.2))],[],0,0⟩)
  (fun p=>p.1<=p.2/\p.2<=ks.length/\(∀ t (h:t<ks.length),t<p.1->(Jn).lt (zV.slot ks[t]) n=true)/\∀ t (h:t<ks.length),p.2<=t->(Jn).lt (zV.slot ks[t]) n=false) (fun p=>p.2-p.1) (0,ks.length) ⟨Wc _,Wb _,fun t _ h=>by (simp at h),fun t h h'=>by (dsimp only at h';omega)⟩ ?_ ?_
 ·exact wk (by push_cast [ze,zd,CLe,zf,We])
 ·rintro ⟨i,j⟩ ⟨h1,h2,h3,h4⟩;dsimp only at h1 h2 h3 h4 ⊢;by_cases h:i<j
  ·obtain ⟨m,hm⟩:∃ m,m=(i+j) / 2:=⟨_,rfl⟩;have hmi:((i:Int)+(j:Int)) / 2=(m:Int):=by omega
   have hml:m<ks.length:=by omega
   have hat:=JJ ks m hml;have hlt:=(zgY ks[m].slot n);push_cast [h,hmi,hat]
   repeat refine an ?_
   refine cl ((zad ks[m] n)) ?_;push_cast;cases hc:(Jn).lt (zV.slot ks[m]) n with
   | true =>
    have hcv:(UI ks[m].slot n<0)=True:=eq_true (hlt.mpr hc);push_cast [hcv]
    repeat refine an ?_
    refine ⟨(m+1,j),⟨by omega,h2,fun t ht hlt2=>?_,h4⟩,by dsimp only;omega,wk⟩;dsimp only at hlt2;rcases Wr t m with q | q
    ·exact (Jn).tr ((WV.1 hR) t m ht hml q) hc
    ·have:t=m:=by omega
     subst this;exact hc
   | false =>
    have hcv:(UI ks[m].slot n<0)=False:=WH (fun e=>by have h7:(Jn).lt (zV.slot ks[m]) n=true:=hlt.mp e;rw[hc]at h7;cases h7);push_cast [hcv]
    repeat refine an ?_
    refine ⟨(i,m),⟨by omega,by omega,h3,fun t ht hge=>?_⟩,by dsimp only;omega,wk⟩;dsimp only at hge;rcases Wr m t with q | q
    ·cases h9:(Jn).lt (zV.slot ks[t]) n with
     | false=>rfl
     | true=>have:=(Jn).tr ((WV.1 hR) m t hml ht q) h9;rw[hc]at this;cases this
    ·have:t=m:=by omega
     subst this;exact hc
  ·have hij:i=j:=by omega
   subst hij;have hrk:=ZG (o:=Jn) (key:=zV.slot) n ks i h2 h3 h4;push_cast [h];refine br (fun hx=>?_) (fun hx=>?_)
   ·have hx:i<ks.length:=by simpa using hx
    have hat:=JJ ks i hx;have hh:=uD n hR hrk hx;push_cast [hx,hat]
    repeat refine an ?_
    refine cl ((zad ks[i] n)) ?_;push_cast;have hcv:decide (UI ks[i].slot n=0)=Yo zV.slot n ks:=by
     rw[hh];exact Bb.2 (zff ks[i].slot n)
    push_cast [hcv];exact dn (by push_cast [ze,zd,CLe,zf,hrk])
   ·have hx:¬i<ks.length:=by simpa using hx
    have hh:=Nk n hR (by omega);push_cast [hx];exact dn (by push_cast [ze,zd,CLe,zf,hrk,hh])
theorem vI (ks:List zV) (n:Int) (hl:ks.length<=100000) (hR:qT Jn zV.slot ks):Fun Tryz.prog G 260 [.sl 4 (zL ks),.sc (.int .i64 n),.clo (.func 261) [] []] (.tup [.sc (.int .i64 (qu Jn zV.slot n ks:Nat)),.sc (.bool (Yo zV.slot n ks))]) 0:=by
 refine fon Tryz.func260 ?_;dsimp only[Tryz.f260];push_cast;refine MO [.sl 4 (zL ks),.sc (.int .i64 n),.clo (.func 282) [] [.row [.clo (.func 261) [] []]]] (Mw ks n hl hR) rfl ?_ ?_
 ·simp[Ju,Yf,C.frz,C.frzL]
 push_cast;exact dn
def zhG (n:Int) (ks:List zV):zV:=(jO zV.slot n ks).getD znB
theorem zfw (w:qR) (n:Int) (hl:w.kept.length<=100000) (hR:qT Jn zV.slot w.kept):Fun Tryz.prog G 232 [XX w,.sc (.int .i64 n)] (.tup [.agg (JB (zhG n w.kept)),.sc (.bool (zaW n w.kept))]) 0:=by
 obtain ⟨_,_,h3,h4⟩:=Un n hR;have h:=vI (G:=G) w.kept n hl hR;cases hh:Yo zV.slot n w.kept with
 | false =>
  have hf:zhG n w.kept=znB:=by unfold zhG;rw[(h4 hh).1];rfl
  have he:zaW n w.kept=false:=hh;rw[hh]at h;refine fon Tryz.func232 ?_;dsimp only[Tryz.f232];push_cast;refine cl h ?_;push_cast;exact dn (by push_cast [ze,zd,CLe,zf,hf,he,znB])
 | true =>
  obtain ⟨hlt,_,g2,_⟩:=h3 hh;have hf:zhG n w.kept=w.kept[qu Jn zV.slot n w.kept]:=by unfold zhG;rw[g2];rfl
  have he:zaW n w.kept=true:=hh;have hat:=JJ w.kept _ hlt;rw[hh]at h;refine fon Tryz.func232 ?_;dsimp only[Tryz.f232];push_cast;refine cl h ?_;push_cast [hat]
  repeat refine an ?_
  exact dn (by push_cast [ze,zd,CLe,zf,hf,he])
end
end
section
open Go.RowKit Go.ChangeMaps Go.ChangeShapes Go.WideShapes Go.Deep Go.Joins
section
variable {H:Type} {enc:TypeId×Value->H} {P:Program} {W:World}
theorem jI.two {t:TypeId} {f1 f2:Field} {k1 k2:Nat} {Q1 Q2:List C->Prop} (hs:P.underlying t=some (.struct #[f1,f2])) (h1:jI enc P W f1.type k1 Q1) (h2:jI enc P W f2.type k2 Q2)
  (e1:f1.offset=0) (e2:P.cellsOf f1.type=k1) (e3:f2.offset=k1) (e4:P.cellsOf f2.type=k2) (e5:P.cellsOf t=k1+k2):jI enc P W t (k1+k2) fun row=>∃ a b,row=a++b/\Q1 a/\Q2 b:=fun fuel cs x hx=>by
 obtain ⟨ys,n',hn',hy,hlen,hyl,hf⟩:=DataW.trod_struct hs hx;rw[e5]at hlen;have g1:=hf 0 f1 rfl;have g2:=hf 1 f2 rfl;have hy2:ys.length=2:=by simpa using hyl
 rw[e1,e2,AQ,Wa (by omega)]at g1;rw[e3,e4,Wa (by omega)]at g2;obtain ⟨a,qa,la,la',ra⟩:=h1 _ _ _ g1;obtain ⟨b,qb,lb,lb',rb⟩:=h2 _ _ _ g2;refine ⟨a++b,⟨a,b,rfl,qa,qb⟩,by rw[Wj,la,lb],hlen,fun j c v h3 h4=>?_⟩;rcases Wr j k1 with hj | hj
 ·rw[Wu (by omega)]at h3;exact ra j c v h3 (by rw[Bn hj];exact h4)
 ·rw[WP (by omega),la]at h3;have hjl:=(Wd.1 h3).1;refine rb (j-k1) c v h3 ?_;rw[Bn (by omega),W4,show k1+(j-k1)=j by omega];exact h4
theorem zkZ:jI enc Tryz.prog W 84 4 fun row=>∃ o:zV,row=JB o/\o.data.length<=maxLen:=fun fuel cs x hx=>by
 obtain ⟨row,⟨hl,hq⟩,h1,h2,h3⟩:=jI.struct (W:=W) (enc:=enc) (Qs:=fun j c=>match j with | 0=>∃ n,c = .sc (.int .i64 n)/\(Lit.int .i64 n).wf=true | 1=>∃ n,c = .sc (.int .i64 n)/\(Lit.int .i64 n).wf=true | 2=>∃ b,c = .sc (.bool b) | 3=>∃ l:Lz,c = .str l/\l.length<=maxLen | _=>True) Tryz.underlying84 (by kernel_rfl) (by kernel_rfl) (fun j f hj=>by
  match j,hj with
  | 0,hj=>cases hj;exact Opn.int Tryz.underlying3
  | 1,hj=>cases hj;exact Opn.int Tryz.underlying3
  | 2,hj=>cases hj;exact Opn.bool Tryz.underlying4
  | 3,hj=>cases hj;exact Opn.str Tryz.underlying9
  | j+4,hj=>simp at hj) fuel cs x hx
 match row,h1,hq,h3 with
 | [c0,c1,c2,c3],_,hq,h3 =>
  obtain ⟨a,rfl,_⟩:=hq 0 c0 rfl;obtain ⟨b,rfl,_⟩:=hq 1 c1 rfl;obtain ⟨c,rfl⟩:=hq 2 c2 rfl;obtain ⟨d,rfl,hd⟩:=hq 3 c3 rfl;exact ⟨_,⟨⟨a,b,c,d⟩,rfl,hd⟩,rfl,h2,h3⟩
theorem zef:Opn enc Tryz.prog W 25 fun c=>∃ xs:List zV,c = .sl 4 (zL xs)/\xs.length<=maxLen/\∀ x∈xs,x.data.length<=maxLen:=fun fuel cs x hx=>by
 obtain ⟨v,c,rfl,⟨rows,rfl,hl,hr⟩,h1,h2⟩:=Opn.slice (W:=W) (enc:=enc) Tryz.underlying25 (show Tryz.prog.cellsOf 84=4 by kernel_rfl) (by decide) zkZ fuel cs x hx;obtain ⟨xs,rfl,hq⟩:=ND hr;exact ⟨v,_,rfl,⟨xs,rfl,by simpa using hl,hq⟩,h1,h2⟩
theorem zgx:jI enc Tryz.prog W 27 2 fun row=>∃ (ks:List zV) (pool:List zn),row = [.sl 4 (zL ks),.sl 6 (zu pool)]/\ks.length<=maxLen/\pool.length<=maxLen:=fun fuel cs x hx=>by
 obtain ⟨row,⟨hl,hq⟩,h1,h2,h3⟩:=jI.struct (W:=W) (enc:=enc) (Qs:=fun j c=>match j with | 0=>∃ xs:List zV,c = .sl 4 (zL xs)/\xs.length<=maxLen/\∀ x∈xs,x.data.length<=maxLen | 1=>∃ xs:List zn,c = .sl 6 (zu xs)/\xs.length<=maxLen/\∀ x∈xs,zfZ x | _=>True) Tryz.underlying27 (by kernel_rfl) (by kernel_rfl) (fun j f hj=>by
  match j,hj with
  | 0,hj=>cases hj;exact zef
  | 1,hj=>cases hj;exact zaU
  | j+2,hj=>simp at hj) fuel cs x hx
 match row,h1,hq,h3 with
 | [c0,c1],_,hq,h3 =>
  obtain ⟨a,rfl,ha,_⟩:=hq 0 c0 rfl;obtain ⟨b,rfl,hb,_⟩:=hq 1 c1 rfl;exact ⟨_,⟨a,b,rfl,ha,hb⟩,rfl,h2,h3⟩
theorem ze7:jI enc Tryz.prog W 29 6 fun row=>∃ w:qR,row=Mi w/\w.fs.xs.length<=maxLen:=fun fuel cs x hx=>by
 obtain ⟨row,⟨a,b,rfl,⟨f,rfl,hf,_⟩,⟨ks,pool,rfl,_⟩⟩,h1,h2,h3⟩:=jI.two (W:=W) (enc:=enc) Tryz.underlying29 zrf zgx rfl (by kernel_rfl) rfl (by kernel_rfl) (by kernel_rfl) fuel cs x hx;exact ⟨_,⟨⟨f,ks,pool⟩,rfl,hf⟩,h1,h2,h3⟩
end
end
section
open CA CB
open Go.RowKit
section
variable {G:zp}
theorem zZ:∀ r∈zL ks,r.length=4:=fun r hr=>by
 obtain ⟨x,_,rfl⟩:=WR.1 hr;rfl
theorem zw:jl (zL ks):=fun r hr=>by
 obtain ⟨x,_,rfl⟩:=WR.1 hr;rfl
theorem zek (w:qR) (k:zV) (hl:w.kept.length<=90000) (hR:qT Jn zV.slot w.kept) (hn:zaW k.slot w.kept=false):Fun Tryz.prog G 238 [XX w,.agg (JB k)] (XX { w with kept:=qK k w.kept }) 0:=by
 obtain ⟨_,_,h3,h4⟩:=Un (o:=Jn) k.slot hR;have hll:(zL w.kept).length=w.kept.length:=We ..;have hat:=vI (G:=G) w.kept k.slot (by omega) hR;have hrl:=ZE (o:=Jn) (key:=zV.slot) k.slot w.kept;have hn':Yo zV.slot k.slot w.kept=false:=hn;rw[hn']at hat;have hw:qK k w.kept=w.kept.take (qu Jn zV.slot k.slot w.kept)++k :: w.kept.drop (qu Jn zV.slot k.slot w.kept):=(h4 hn').2.2 k rfl;have hset:zL (qK k w.kept)=(zL w.kept).take (qu Jn zV.slot k.slot w.kept)++JB k :: (zL w.kept).drop (qu Jn zV.slot k.slot w.kept):=by rw[hw];simp
 have hsl:(zL (qK k w.kept)).length=(zL w.kept).length+1:=by rw[hset];simp;omega
 refine foF (fun i=>if i=2 then X5 [(0,.pure),(1,.pure),(2,.pure),(4,.pure),(5,.pure),(6,.pure),(3,.flt [3,4,5]),(7,.bar),(8,.pure),(9,.pure),(10,.bar)] else []) Tryz.func238 ?_;dsimp only[Tryz.f238];push_cast;refine cl hat ?_;push_cast;refine znH [] (GO (zL w.kept) zZ zw (by omega)) (by decide) (by simp) (by push_cast) (by push_cast) (fun r bx' m hp=>?_);obtain ⟨rfl,⟨hne,c,h1,h2,rfl,rfl⟩ | ⟨he,⟨rfl,rfl⟩ | ⟨rfl,rfl⟩⟩⟩:=hp
 ·have hbl:=JG zZ h1;have hre:∀ fp fo,C.reL fp fo (qA 4 (zL w.kept) c)=qA 4 (zL w.kept) c:=fun fp fo=>zD (zG zw);have hpos:=WE.2 hne;have hre2:∀ fp fo c,C.reL fp fo (qA 4 (zL (qK k w.kept)) c)=qA 4 (zL (qK k w.kept)) c:=fun fp fo c=>zD (zG zw);push_cast [hre];refine j6 [4] [0] (UJ (e:=84) (zL w.kept) (JB k) (qu Jn zV.slot k.slot w.kept) c zZ rfl zw rfl (by omega) (by omega) h1 h2) rfl (by decide) (by decide) (by simp) (by push_cast) (by push_cast [hre]) (fun r bx' m hp=>?_);rw[←hset]at hp;obtain ⟨rfl,c',g1,g2,⟨rfl,rfl⟩ | ⟨rfl,rfl⟩⟩:=hp
  ·push_cast [hre2,hre];exact ⟨[(4,84,4,zL (qK k w.kept),c')],[],zB rfl (by omega) g1 g2 zZ zw,rfl,rfl,by push_cast [ze,zd,CLe,zf]⟩
  ·have hra:∀ fp fo,C.reL fp fo (List.replicate (c*4) .any)=List.replicate (c*4) .any:=fun fp fo=>zD (by simp[OL,C.stayB]);push_cast [hre2,hre,hra];exact ⟨[(5,84,4,zL (qK k w.kept),c')],[],zB rfl (by omega) g1 g2 zZ zw,rfl,rfl,by push_cast [ze,zd,CLe,zf]⟩
 ·have he:w.kept = []:=by simpa using he
  have hr0:qu Jn zV.slot k.slot w.kept=0:=by rw[he];rfl
  have hs1:qK k w.kept = [k]:=by rw[he];rfl
  push_cast [hr0];refine j6 [] [0] (zbg (e:=84) (JB k) rfl rfl) rfl (by decide) (by decide) (by simp) (by push_cast) (by push_cast) (fun r bx' m hp=>?_);obtain ⟨rfl,c,g1,g2,rfl,rfl⟩:=hp;have hre:∀ fp fo,C.reL fp fo (qA 4 [JB k] c)=qA 4 [JB k] c:=fun fp fo=>zD (zG (zw (ks:=[k])));push_cast [hre];exact ⟨[(3,84,4,zL [k],c)],[],zB rfl (by omega) g1 g2 zZ zw,rfl,rfl,by push_cast [ze,zd,CLe,zf,hs1]⟩
 ·have he:w.kept = []:=by simpa using he
  have hr0:qu Jn zV.slot k.slot w.kept=0:=by rw[he];rfl
  have hs1:qK k w.kept = [k]:=by rw[he];rfl
  push_cast [hr0];refine j6 [3] [0] (UJ (e:=84) [] (JB k) 0 0 (fun r hr=>by cases hr) rfl (fun r hr=>by cases hr) rfl (by simp) (by simp) (by simp) (by simp)) rfl (by decide) (by decide) (by simp) (by push_cast) (by push_cast [qA]) (fun r bx' m hp=>?_);obtain ⟨rfl,c,g1,g2,hp⟩:=hp;have hre:∀ fp fo,C.reL fp fo (qA 4 [JB k] c)=qA 4 [JB k] c:=fun fp fo=>zD (zG (zw (ks:=[k])));rcases hp with ⟨rfl,rfl⟩ | ⟨rfl,rfl⟩
  ·push_cast [hre];exact ⟨[(3,84,4,zL [k],c)],[],zB rfl (WL (AZ _) g1) g1 g2 zZ zw,rfl,rfl,by push_cast [ze,zd,CLe,zf,hs1]⟩
  ·push_cast [hre];exact ⟨[(4,84,4,zL [k],c)],[],zB rfl (WL (AZ _) g1) g1 g2 zZ zw,rfl,rfl,by push_cast [ze,zd,CLe,zf,hs1]⟩
theorem yw (f:FsV) (hf:FsI f) (hs:FsS f) (p:Lz) (hp:p.length<=1000000):Fun Tryz.prog G0 229 [.agg (fsC f),.str p] (.tup [.agg (jL (isV f p true).1),.agg (YB (isV f p true).2.1),.sc (.int .i64 (isV f p true).2.2)]) 0:=by
 have h1:=NX f hf hs p hp;have h2:=jp (G:=G0) f (atV f p).1.ino (by have:=hs.len;omega) hf.rises;have e1:(isV f p true).1=(atV f p).1:=rfl;have e2:(isV f p true).2.1=zg (atV f p).1.ino f.xs:=rfl;by_cases h0:(atV f p).2=0
 ·have h0':=eq_true h0;cases hz:zk (atV f p).1.ino f.xs with
  | true =>
   have e3:(isV f p true).2.2=0:=by unfold isV;simp[h0,hz]
   rw[hz]at h2;refine fof (fun i=>if i=4 then X5 [(0,.pure),(1,.pure),(2,.pure),(3,.flt [1,2]),(4,.flt [2]),(5,.pure)] else if i=6 then X5 [(0,.pure),(1,.pure),(2,.flt [1]),(3,.flt []),(4,.pure)] else if i=7 then X5 [(0,.pure),(1,.pure),(2,.flt [1]),(3,.flt []),(4,.pure)] else []) Tryz.func229 ?_;dsimp only[Tryz.f229];push_cast;refine cl h1 ?_;push_cast;refine cl h2 ?_;push_cast [h0'];exact dn (by push_cast [ze,zd,CLe,zf,e1,e2,e3])
  | false =>
   have e3:(isV f p true).2.2=1:=by unfold isV;simp[h0,hz]
   rw[hz]at h2;refine fof (fun i=>if i=4 then X5 [(0,.pure),(1,.pure),(2,.pure),(3,.flt [1,2]),(4,.flt [2]),(5,.pure)] else if i=6 then X5 [(0,.pure),(1,.pure),(2,.flt [1]),(3,.flt []),(4,.pure)] else if i=7 then X5 [(0,.pure),(1,.pure),(2,.flt [1]),(3,.flt []),(4,.pure)] else []) Tryz.func229 ?_;dsimp only[Tryz.f229];push_cast;refine cl h1 ?_;push_cast;refine cl h2 ?_;push_cast [h0'];exact dn (by push_cast [ze,zd,CLe,zf,e1,e2,e3])
 ·have h0':=WH h0;have e3:(isV f p true).2.2=(atV f p).2:=by unfold isV;simp[h0]
  refine fof (fun i=>if i=4 then X5 [(0,.pure),(1,.pure),(2,.pure),(3,.flt [1,2]),(4,.flt [2]),(5,.pure)] else if i=6 then X5 [(0,.pure),(1,.pure),(2,.flt [1]),(3,.flt []),(4,.pure)] else if i=7 then X5 [(0,.pure),(1,.pure),(2,.flt [1]),(3,.flt []),(4,.pure)] else []) Tryz.func229 ?_;dsimp only[Tryz.f229];push_cast;refine cl h1 ?_;push_cast;refine cl h2 ?_;push_cast [h0',ite_self];exact dn (by push_cast [ze,zd,CLe,zf,e1,e2,e3])
end
end
section
open CA CB
open Go.RowKit
section
variable {G:zp}
theorem zka (k:zn):Fun Tryz.prog G 235 [.agg (YB k)] (.sc (.int .i64 k.ino)) 0:=by
 refine fon Tryz.func235 ?_;dsimp only[Tryz.f235];push_cast;exact dn
theorem zbd (k:zn) (n:Int):Fun Tryz.prog G 263 [.agg (YB k),.sc (.int .i64 n),.row [.clo (.func 235) [] []]] (.sc (.int .i64 (UI k.ino n))) 0:=by
 refine fon Tryz.func263 ?_;dsimp only[Tryz.f263];push_cast;refine cl (zka k) ?_;push_cast;refine cl (vH k.ino n) ?_;push_cast;exact dn
theorem MD (ks:List zn) (n:Int) (hl:ks.length<=100000) (hR:qT Jn zn.ino ks) :
  Fun Tryz.prog G 154 [.sl 6 (zu ks),.sc (.int .i64 n),.clo (.func 263) [] [.row [.clo (.func 235) [] []]]] (.tup [.sc (.int .i64 (qu Jn zn.ino n ks:Nat)),.sc (.bool (Yo zn.ino n ks))]) 0:=by
 refine fon Tryz.func154 ?_;dsimp only[Tryz.f154];push_cast;refine loop (fun p:Nat×Nat=>⟨[(0,.sl 6 (zu ks)),(1,.sc (.int .i64 n)),(2,.clo (.func 263) [] [.row [.clo (.func 235) [] []]]),(8,.sc (.int .i64 (ks.length:Nat))),(9,.sc (.int .i64 p.1)),(10,.sc (.int .i64 p.2))],[],0,0⟩)
  (fun p=>p.1<=p.2/\p.2<=ks.length/\(∀ t (h:t<ks.length),t<p.1->(Jn).lt (zn.ino ks[t]) n=true)/\∀ t (h:t<ks.length),p.2<=t->(Jn).lt (zn.ino ks[t]) n=false) (fun p=>p.2-p.1) (0,ks.length) ⟨Wc _,Wb _,fun t _ h=>by (simp at h),fun t h h'=>by (dsimp only at h';omega)⟩ ?_ ?_
 ·exact wk (by push_cast [ze,zd,CLe,zf,We])
 ·rintro ⟨i,j⟩ ⟨h1,h2,h3,h4⟩;dsimp only at h1 h2 h3 h4 ⊢;by_cases h:i<j
  ·obtain ⟨m,hm⟩:∃ m,m=(i+j) / 2:=⟨_,rfl⟩;have hmi:((i:Int)+(j:Int)) / 2=(m:Int):=by omega
   have hml:m<ks.length:=by omega
   have hat:=js ks m hml;have hlt:=(zgY ks[m].ino n);push_cast [h,hmi,hat]
   repeat refine an ?_
   refine cl ((zbd ks[m] n)) ?_;push_cast;cases hc:(Jn).lt (zn.ino ks[m]) n with
   | true =>
    have hcv:(UI ks[m].ino n<0)=True:=eq_true (hlt.mpr hc);push_cast [hcv]
    repeat refine an ?_
    refine ⟨(m+1,j),⟨by omega,h2,fun t ht hlt2=>?_,h4⟩,by dsimp only;omega,wk⟩;dsimp only at hlt2;rcases Wr t m with q | q
    ·exact (Jn).tr ((WV.1 hR) t m ht hml q) hc
    ·have:t=m:=by omega
     subst this;exact hc
   | false =>
    have hcv:(UI ks[m].ino n<0)=False:=WH (fun e=>by have h7:(Jn).lt (zn.ino ks[m]) n=true:=hlt.mp e;rw[hc]at h7;cases h7);push_cast [hcv]
    repeat refine an ?_
    refine ⟨(i,m),⟨by omega,by omega,h3,fun t ht hge=>?_⟩,by dsimp only;omega,wk⟩;dsimp only at hge;rcases Wr m t with q | q
    ·cases h9:(Jn).lt (zn.ino ks[t]) n with
     | false=>rfl
     | true=>have:=(Jn).tr ((WV.1 hR) m t hml ht q) h9;rw[hc]at this;cases this
    ·have:t=m:=by omega
     subst this;exact hc
  ·have hij:i=j:=by omega
   subst hij;have hrk:=ZG (o:=Jn) (key:=zn.ino) n ks i h2 h3 h4;push_cast [h];refine br (fun hx=>?_) (fun hx=>?_)
   ·have hx:i<ks.length:=by simpa using hx
    have hat:=js ks i hx;have hh:=uD n hR hrk hx;push_cast [hx,hat]
    repeat refine an ?_
    refine cl ((zbd ks[i] n)) ?_;push_cast;have hcv:decide (UI ks[i].ino n=0)=Yo zn.ino n ks:=by
     rw[hh];exact Bb.2 (zff ks[i].ino n)
    push_cast [hcv];exact dn (by push_cast [ze,zd,CLe,zf,hrk])
   ·have hx:¬i<ks.length:=by simpa using hx
    have hh:=Nk n hR (by omega);push_cast [hx];exact dn (by push_cast [ze,zd,CLe,zf,hrk,hh])
theorem zm1 (ks:List zn) (n:Int) (hl:ks.length<=100000) (hR:qT Jn zn.ino ks):Fun Tryz.prog G 234 [.sl 6 (zu ks),.sc (.int .i64 n),.clo (.func 235) [] []] (.tup [.sc (.int .i64 (qu Jn zn.ino n ks:Nat)),.sc (.bool (Yo zn.ino n ks))]) 0:=by
 refine fon Tryz.func234 ?_;dsimp only[Tryz.f234];push_cast;refine MO [.sl 6 (zu ks),.sc (.int .i64 n),.clo (.func 263) [] [.row [.clo (.func 235) [] []]]] (MD ks n hl hR) rfl ?_ ?_
 ·simp[Ju,Yf,C.frz,C.frzL]
 push_cast;exact dn
end
end
section
open CA CB
open Go.RowKit
section
variable {G:zp}
abbrev zqa (w:qR) (kc pc:C):C:=.agg [.sc (.int .i64 w.fs.maxI),.sc (.int .i64 w.fs.maxB),.sc (.int .i64 w.fs.next),.sl 6 (zu w.fs.xs),kc,pc]
def zrW (w:qR) (k:zV) (B:List C) (pn pc:Nat) (r:C) (bx':List (List C)) (m:Nat):Prop:=
 m=0/\∃ (c':Nat) (Ls:List (List C)),(Ls = []∨(∃ X,Ls = [X]/\(X.all C.stayB)=true)∨∃ X Y,Ls = [X,Y]/\(X.all C.stayB)=true/\(Y.all C.stayB)=true)/\(zL (qK k w.kept)).length<=c'/\c'<=9223372036854775807/\r=zqa w (.bs (4+Ls.length) 0 4 (zL (qK k w.kept)).length c') (.bs 0 0 6 pn pc) /\
  bx'=B :: [.any,.any,.any,.any,.any,.any] :: [.any,.any,.any,.any] :: [.any,.any,.any,.any,.any,.any] :: (Ls++[qA 4 (zL (qK k w.kept)) c'])
theorem Hm (w:qR) (k:zV) (B:List C) (pn pc:Nat) (hB:(B.all C.stayB)=true) (hl:w.kept.length<=90000) (hR:qT Jn zV.slot w.kept) (hn:zaW k.slot w.kept=false):Y8 Tryz.prog G 238 [zqa w (.sl 4 (zL w.kept)) (.bs 0 0 6 pn pc),.agg (JB k)] [B] 0 (zrW w k B pn pc):=by
 obtain ⟨_,_,h3,h4⟩:=Un (o:=Jn) k.slot hR;have hll:(zL w.kept).length=w.kept.length:=We ..;have hat:=vI (G:=G) w.kept k.slot (by omega) hR;have hrl:=ZE (o:=Jn) (key:=zV.slot) k.slot w.kept;have hn':Yo zV.slot k.slot w.kept=false:=hn;rw[hn']at hat;have hw:qK k w.kept=w.kept.take (qu Jn zV.slot k.slot w.kept)++k :: w.kept.drop (qu Jn zV.slot k.slot w.kept):=(h4 hn').2.2 k rfl;have hset:zL (qK k w.kept)=(zL w.kept).take (qu Jn zV.slot k.slot w.kept)++JB k :: (zL w.kept).drop (qu Jn zV.slot k.slot w.kept):=by rw[hw];simp
 have hsl:(zL (qK k w.kept)).length=(zL w.kept).length+1:=by rw[hset];simp;omega
 refine foX (fun i=>if i=2 then X5 [(0,.pure),(1,.pure),(2,.pure),(4,.pure),(5,.pure),(6,.pure),(3,.flt [3,4,5]),(7,.bar),(8,.pure),(9,.pure),(10,.bar)] else []) Tryz.func238 ?_;dsimp only[Tryz.f238];have hBr:∀ fp fo,C.reL fp fo B=B:=fun fp fo=>zD hB;push_cast;refine cl hat ?_;push_cast;refine znH [] (GO (zL w.kept) zZ zw (by omega)) (by decide) (by simp) (by push_cast) (by push_cast) (fun r bx' m hp=>?_);obtain ⟨rfl,⟨hne,c,h1,h2,rfl,rfl⟩ | ⟨he,⟨rfl,rfl⟩ | ⟨rfl,rfl⟩⟩⟩:=hp
 ·have hbl:=JG zZ h1;have hre:∀ fp fo,C.reL fp fo (qA 4 (zL w.kept) c)=qA 4 (zL w.kept) c:=fun fp fo=>zD (zG zw);have hpos:=WE.2 hne;have hre2:∀ fp fo c,C.reL fp fo (qA 4 (zL (qK k w.kept)) c)=qA 4 (zL (qK k w.kept)) c:=fun fp fo c=>zD (zG zw);push_cast [hre,hBr];refine j6 [5] [0] (UJ (e:=84) (zL w.kept) (JB k) (qu Jn zV.slot k.slot w.kept) c zZ rfl zw rfl (by omega) (by omega) h1 h2) rfl (by decide) (by decide) (by simp) (by push_cast [hBr]) (by push_cast [hre,hBr]) (fun r bx' m hp=>?_);rw[←hset]at hp;obtain ⟨rfl,c',g1,g2,⟨rfl,rfl⟩ | ⟨rfl,rfl⟩⟩:=hp
  ·push_cast [hre2,hre,hBr];refine ⟨_,_,0,⟨⟨rfl,c',[[]],.inr (.inl ⟨[],rfl,rfl⟩),g1,g2,rfl,rfl⟩,by simp⟩,[],rfl,rfl,?_,by push_cast [ze,zd,CLe,zf]⟩;push_cast [ze,zd,CLe,zf];exact ⟨zT hB,zT (zG zw)⟩
  ·have hra:∀ fp fo,C.reL fp fo (List.replicate (c*4) .any)=List.replicate (c*4) .any:=fun fp fo=>zD (by simp[OL,C.stayB]);push_cast [hre2,hre,hra,hBr];refine ⟨_,_,0,⟨⟨rfl,c',[[],List.replicate (c*4) .any],.inr (.inr ⟨[],_,rfl,rfl,by simp[OL,C.stayB]⟩),g1,g2,rfl,rfl⟩,by simp⟩,[],rfl,rfl,?_,by push_cast [ze,zd,CLe,zf]⟩;push_cast [ze,zd,CLe,zf];exact ⟨zT hB,zT (by simp[OL,C.stayB]),zT (zG zw)⟩
 ·have he:w.kept = []:=by simpa using he
  have hr0:qu Jn zV.slot k.slot w.kept=0:=by rw[he];rfl
  have hs1:qK k w.kept = [k]:=by rw[he];rfl
  push_cast [hr0];refine j6 [] [0] (zbg (e:=84) (JB k) rfl rfl) rfl (by decide) (by decide) (by simp) (by push_cast) (by push_cast) (fun r bx' m hp=>?_);obtain ⟨rfl,c,g1,g2,rfl,rfl⟩:=hp;have hre:∀ fp fo,C.reL fp fo (qA 4 [JB k] c)=qA 4 [JB k] c:=fun fp fo=>zD (zG (zw (ks:=[k])));push_cast [hre,hBr];refine ⟨zqa w (.bs 4 0 4 1 c) (.bs 0 0 6 pn pc),B :: [.any,.any,.any,.any,.any,.any] :: [.any,.any,.any,.any] :: [.any,.any,.any,.any,.any,.any] :: ([]++[qA 4 [JB k] c]),0,⟨⟨rfl,c,[],.inl rfl,by rw[hs1];exact g1,g2,by rw[hs1];rfl,by rw[hs1];rfl⟩,by simp⟩,[],rfl,rfl,?_,by push_cast [ze,zd,CLe,zf]⟩;push_cast [ze,zd,CLe,zf];exact ⟨zT hB,zT (zG (zw (ks:=[k])))⟩
 ·have he:w.kept = []:=by simpa using he
  have hr0:qu Jn zV.slot k.slot w.kept=0:=by rw[he];rfl
  have hs1:qK k w.kept = [k]:=by rw[he];rfl
  push_cast [hr0];refine j6 [4] [0] (UJ (e:=84) [] (JB k) 0 0 (fun r hr=>by cases hr) rfl (fun r hr=>by cases hr) rfl (by simp) (by simp) (by simp) (by simp)) rfl (by decide) (by decide) (by simp) (by push_cast) (by push_cast [qA]) (fun r bx' m hp=>?_);obtain ⟨rfl,c,g1,g2,hp⟩:=hp;have hre:∀ fp fo,C.reL fp fo (qA 4 [JB k] c)=qA 4 [JB k] c:=fun fp fo=>zD (zG (zw (ks:=[k])));rcases hp with ⟨rfl,rfl⟩ | ⟨rfl,rfl⟩
  ·push_cast [hre,hBr];refine ⟨zqa w (.bs 4 0 4 1 c) (.bs 0 0 6 pn pc),B :: [.any,.any,.any,.any,.any,.any] :: [.any,.any,.any,.any] :: [.any,.any,.any,.any,.any,.any] :: ([]++[qA 4 [JB k] c]),0,⟨⟨rfl,c,[],.inl rfl,by rw[hs1];exact g1,g2,by rw[hs1];rfl,by rw[hs1];rfl⟩,by simp⟩,[],rfl,rfl,?_,by push_cast [ze,zd,CLe,zf]⟩;push_cast [ze,zd,CLe,zf];exact ⟨zT hB,zT (zG (zw (ks:=[k])))⟩
  ·push_cast [hre,hBr];refine ⟨zqa w (.bs 5 0 4 1 c) (.bs 0 0 6 pn pc),B :: [.any,.any,.any,.any,.any,.any] :: [.any,.any,.any,.any] :: [.any,.any,.any,.any,.any,.any] :: ([[]]++[qA 4 [JB k] c]),0,⟨⟨rfl,c,[[]],.inr (.inl ⟨[],rfl,rfl⟩),by rw[hs1];exact g1,g2,by rw[hs1];rfl,by rw[hs1];rfl⟩,by simp⟩,[],rfl,rfl,?_,by push_cast [ze,zd,CLe,zf]⟩;push_cast [ze,zd,CLe,zf];exact ⟨zT hB,zT (zG (zw (ks:=[k])))⟩
end
end
section
open CA CB
open Go.RowKit
theorem jB {bx:List (List C)} {a b:Nat×TypeId×Nat×List (List C)×Nat} (h1:zdq [a] bx) (h2:zdq [b] bx) (hne:a.1≠b.1):zdq [a,b] bx:=⟨by simp[hne],fun x hx=>by
 rcases WK.1 hx with rfl | hx
 ·exact h1.2 _ Wk
 ·exact h2.2 _ hx⟩
theorem zcg (hf:FsI f) {s:zO} (hs:zX f s):(zI f s).xs.length<=f.xs.length:=by
 have hi:=zX.ino hf hs;have hl:=Jc (F:=zj s.name) hf.rises hs.has;unfold zI;split
 ·show (qh _ _).length<=_;exact WM Z1 (by rw[hl];exact Wb _)
 ·show (qv _ _).length<=_;rw[JI (show z8 (qr s.dir (zj s.name) f.xs) from qf hf.rises) ?_,hl]
  ·exact Wb _
  ·show zk (zg s.ino f.xs).ino (qr _ _ _)=true;rw[(zi hi).2.2,z7 hs.has];exact hi
theorem zlC (h:z8 xs):qT Jn zn.ino xs:=List.Pairwise.imp (fun {a b} h=>by show decide (a.ino<b.ino)=true;exact Wo h) h
theorem zlc (x:zn):∀ xs:List zn,Zz x xs=Um Jn zn.ino x xs
 | []=>rfl
 | y :: r=>by
  unfold Zz Um;rw[zlc x r];have e:Jn.lt x.ino y.ino=decide (x.ino<y.ino):=rfl;rw[e];by_cases h:x.ino<y.ino
  ·rw[if_pos h,if_pos (Wo h)]
  ·rw[if_neg h,if_neg (by simpa using h)]
theorem zm8 (hR:z8 xs) (h:∀ y∈xs,y.ino≠x.ino):qv x xs=xs.take (qu Jn zn.ino x.ino xs)++x :: xs.drop (qu Jn zn.ino x.ino xs):=by
 have h1:qh x.ino xs=xs:=BP.2 fun y hy=>by simpa using h y hy
 have h2:Yo zn.ino x.ino xs=false:=by
  unfold Yo;rw[Om];intro y hy;simpa using h y hy
 obtain ⟨_,_,_,h4⟩:=Un (o:=Jn) x.ino (zlC hR);unfold qv;rw[h1,zlc];exact (h4 h2).2.2 x rfl
theorem zkt (w:qR) (hw:Vk w) (hs:FsS w.fs) (hk:w.kept.length<=90000) (hp:w.pool.length<=90000) (n:Int) (s:zO) (hsp:zX w.fs s) (he:(zg s.ino w.fs.xs).es = []):Fun Tryz.prog G0 196 [XX w,.sc (.int .i64 n),.agg (jL s)] (.tup [XX (XN w n s).1,.sc (.int .i64 (XN w n s).2)]) 0:=by
 have hf:=hw.fs;have hlen:=hs.len;have hino:=hsp.ino hf;have h1:=zfw (G:=G0) w n (by omega) hw.kept;cases hh:zaW n w.kept with
 | true =>
  have e:XN w n s=(w,13):=by unfold XN;rw[hh];rfl
  rw[hh]at h1;refine fof (fun i=>if i=10 then X5 [(0,.pure),(1,.pure),(2,.pure),(4,.pure),(5,.pure),(6,.pure),(3,.flt [3,4,5]),(7,.bar),(8,.pure),(9,.pure),(10,.bar)] else []) Tryz.func196 ?_;dsimp only[Tryz.f196];push_cast;refine cl h1 ?_;push_cast;exact dn (by push_cast [ze,zd,CLe,zf,e])
 | false =>
  rw[hh]at h1;have hg:=jp (G:=G0) w.fs s.ino (by omega) hf.rises;rw[hino]at hg;have hne:s.dir≠s.ino:=fun e=>by
   have:=hsp.there;rw[e,he]at this;cases this
  have hu:=zb4 w.fs hf hs s hsp hne;have hul:=zcg hf hsp;have hg2:=jp (G:=G0) (zI w.fs s) s.ino (by omega) (U8 hf hsp he).rises;rw[Vv hsp.has hino]at hg2;by_cases hz:(zg s.ino w.fs.xs).links=1
  ·rw[if_pos (show (zg s.ino w.fs.xs).links-1=0 by omega)]at hg2;simp only[decide_true,AY,Oa]at hg2;have hxi:=(zi hino).2.2;have hno:∀ y∈w.pool,y.ino≠s.ino:=fun y hy e=>by
    have:=(hw.apart y hy).1;rw[e,hino]at this;cases this
   have hnk:Yo zn.ino s.ino w.pool=false:=by
    unfold Yo;rw[Om];intro y hy;simpa using hno y hy
   have e:XN w n s=(⟨zI w.fs s,qK ⟨n,s.ino,false,[]⟩ w.kept,qv { zg s.ino w.fs.xs with links:=0,parent:=0 } w.pool⟩,0):=by unfold XN;rw[hh,if_pos hz];rfl
   have hset:=zm8 (x:={ zg s.ino w.fs.xs with links:=0,parent:=0 }) hw.pool (fun y hy=>by rw[show ({ zg s.ino w.fs.xs with links:=0,parent:=0 }:zn).ino=(zg s.ino w.fs.xs).ino from rfl,hxi];exact hno y hy);rw[show ({ zg s.ino w.fs.xs with links:=0,parent:=0 }:zn).ino=s.ino from hxi]at hset;have hat:=zm1 (G:=G0) w.pool s.ino (by omega) (zlC hw.pool);rw[hnk]at hat;have hll:(zu w.pool).length=w.pool.length:=We ..;have hrl:=ZE (o:=Jn) (key:=zn.ino) s.ino w.pool;generalize qu Jn zn.ino s.ino w.pool=r at *;generalize hpl:qv { zg s.ino w.fs.xs with links:=0,parent:=0 } w.pool=pl at *;have hpc:zu pl=(zu w.pool).take r++[.sc (.int .i64 s.ino),.sc (.int .i64 (zg s.ino w.fs.xs).kind),.sc (.int .i64 0),.str (zg s.ino w.fs.xs).data,.sc (.int .i64 0),.sl 2 (zQ (zg s.ino w.fs.xs).es)] :: (zu w.pool).drop r:=by rw[hset];simp[hxi]
   have hpl1:(zu pl).length=(zu w.pool).length+1:=by rw[hpc];simp;omega
   have hre2:∀ fp fo c,C.reL fp fo (qA 6 (zu pl) c)=qA 6 (zu pl) c:=fun fp fo c=>zD (zG zt);have hre4:∀ fp fo c,C.reL fp fo (qA 4 (zL (qK ⟨n,s.ino,false,[]⟩ w.kept)) c)=qA 4 (zL (qK ⟨n,s.ino,false,[]⟩ w.kept)) c:=fun fp fo c=>zD (zG zw);have hkp:0<(zL (qK ⟨n,s.ino,false,[]⟩ w.kept)).length:=by rw[We,qK,UA];omega
   refine foF (fun i=>if i=10 then X5 [(0,.pure),(1,.pure),(2,.pure),(4,.pure),(5,.pure),(6,.pure),(3,.flt [3,4,5]),(7,.bar),(8,.pure),(9,.pure),(10,.bar)] else []) Tryz.func196 ?_;dsimp only[Tryz.f196];push_cast;refine cl h1 ?_;push_cast;refine cl hg ?_;push_cast;refine cl hu ?_;push_cast;refine cl hg2 ?_;push_cast;rw[hxi];refine cl hat ?_;push_cast;refine znH [] (QQ (zu w.pool) zU zt (by omega)) (by decide) (by simp) (by push_cast) (by push_cast) (fun r0 bx' m hp=>?_);obtain ⟨rfl,⟨hne',c,c1,c2,rfl,rfl⟩ | ⟨hnil,⟨rfl,rfl⟩ | ⟨rfl,rfl⟩⟩⟩:=hp
   ·have hbl:=JG zU c1;have hre:∀ fp fo,C.reL fp fo (qA 6 (zu w.pool) c)=qA 6 (zu w.pool) c:=fun fp fo=>zD (zG zt);push_cast [hre];refine j6 [7] [0] (Uv (e:=96) (zu w.pool) [.sc (.int .i64 s.ino),.sc (.int .i64 (zg s.ino w.fs.xs).kind),.sc (.int .i64 0),.str (zg s.ino w.fs.xs).data,.sc (.int .i64 0),.sl 2 (zQ (zg s.ino w.fs.xs).es)] r c zU rfl zt rfl (by omega) (by omega) c1 c2) rfl (by decide) (by decide) (by simp) (by push_cast) (by push_cast [hre]) (fun r1 bx' m hp=>?_);rw[←hpc]at hp;obtain ⟨rfl,c',g1,g2,⟨rfl,rfl⟩ | ⟨rfl,rfl⟩⟩:=hp
    ·push_cast [hre2,hre];refine j6 [7] [] (Hm (G:=G0) { w with fs:=zI w.fs s } ⟨n,s.ino,false,[]⟩ (qA 6 (zu pl) c') (zu pl).length c' (zG zt) hk hw.kept hh) rfl (by decide) (by decide) (by simp) (by push_cast) (by push_cast [hre2]) (fun r2 bx' m hp=>?_);obtain ⟨rfl,c3,Ls,hLs,k1,k2,rfl,rfl⟩:=hp;rcases hLs with rfl | ⟨X,rfl,hX⟩ | ⟨X,Y,rfl,hX,hY⟩
     ·push_cast [hre2,hre4];exact ⟨[(11,84,4,zL (qK ⟨n,s.ino,false,[]⟩ w.kept),c3),(7,96,6,zu pl,c')],[],jB (zB rfl (WL hkp k1) k1 k2 zZ zw) (zB rfl (by omega) g1 g2 zU zt) (show (11:Nat)≠7 by decide),rfl,rfl,by push_cast [ze,zd,CLe,zf,e,AG,W2]⟩
     ·have hXr:∀ fp fo,C.reL fp fo X=X:=fun fp fo=>zD hX;push_cast [hre2,hre4,hXr];exact ⟨[(12,84,4,zL (qK ⟨n,s.ino,false,[]⟩ w.kept),c3),(7,96,6,zu pl,c')],[],jB (zB rfl (WL hkp k1) k1 k2 zZ zw) (zB rfl (by omega) g1 g2 zU zt) (show (12:Nat)≠7 by decide),rfl,rfl,by push_cast [ze,zd,CLe,zf,e,AG,W2]⟩
     ·have hXr:∀ fp fo,C.reL fp fo X=X:=fun fp fo=>zD hX;have hYr:∀ fp fo,C.reL fp fo Y=Y:=fun fp fo=>zD hY;push_cast [hre2,hre4,hXr,hYr];exact ⟨[(13,84,4,zL (qK ⟨n,s.ino,false,[]⟩ w.kept),c3),(7,96,6,zu pl,c')],[],jB (zB rfl (WL hkp k1) k1 k2 zZ zw) (zB rfl (by omega) g1 g2 zU zt) (show (13:Nat)≠7 by decide),rfl,rfl,by push_cast [ze,zd,CLe,zf,e,AG,W2]⟩
    ·have hra:∀ fp fo,C.reL fp fo (List.replicate (c*6) .any)=List.replicate (c*6) .any:=fun fp fo=>zD (by simp[OL,C.stayB]);push_cast [hre2,hre,hra];refine j6 [8] [] (Hm (G:=G0) { w with fs:=zI w.fs s } ⟨n,s.ino,false,[]⟩ (qA 6 (zu pl) c') (zu pl).length c' (zG zt) hk hw.kept hh) rfl (by decide) (by decide) (by simp) (by push_cast) (by push_cast [hre2,hra]) (fun r2 bx' m hp=>?_);obtain ⟨rfl,c3,Ls,hLs,k1,k2,rfl,rfl⟩:=hp;rcases hLs with rfl | ⟨X,rfl,hX⟩ | ⟨X,Y,rfl,hX,hY⟩
     ·push_cast [hre2,hre4,hra];exact ⟨[(12,84,4,zL (qK ⟨n,s.ino,false,[]⟩ w.kept),c3),(8,96,6,zu pl,c')],[],jB (zB rfl (WL hkp k1) k1 k2 zZ zw) (zB rfl (by omega) g1 g2 zU zt) (show (12:Nat)≠8 by decide),rfl,rfl,by push_cast [ze,zd,CLe,zf,e,AG,W2]⟩
     ·have hXr:∀ fp fo,C.reL fp fo X=X:=fun fp fo=>zD hX;push_cast [hre2,hre4,hra,hXr];exact ⟨[(13,84,4,zL (qK ⟨n,s.ino,false,[]⟩ w.kept),c3),(8,96,6,zu pl,c')],[],jB (zB rfl (WL hkp k1) k1 k2 zZ zw) (zB rfl (by omega) g1 g2 zU zt) (show (13:Nat)≠8 by decide),rfl,rfl,by push_cast [ze,zd,CLe,zf,e,AG,W2]⟩
     ·have hXr:∀ fp fo,C.reL fp fo X=X:=fun fp fo=>zD hX;have hYr:∀ fp fo,C.reL fp fo Y=Y:=fun fp fo=>zD hY;push_cast [hre2,hre4,hra,hXr,hYr];exact ⟨[(14,84,4,zL (qK ⟨n,s.ino,false,[]⟩ w.kept),c3),(8,96,6,zu pl,c')],[],jB (zB rfl (WL hkp k1) k1 k2 zZ zw) (zB rfl (by omega) g1 g2 zU zt) (show (14:Nat)≠8 by decide),rfl,rfl,by push_cast [ze,zd,CLe,zf,e,AG,W2]⟩
   ·have hpe:w.pool = []:=by simpa using hnil
    have hr0:r=0:=by rw[hpe]at hrl;exact Nat.le_zero.1 hrl
    subst hr0;have hq:zu pl = [[.sc (.int .i64 s.ino),.sc (.int .i64 (zg s.ino w.fs.xs).kind),.sc (.int .i64 0),.str (zg s.ino w.fs.xs).data,.sc (.int .i64 0),.sl 2 (zQ (zg s.ino w.fs.xs).es)]]:=by rw[hpc,hpe];rfl
    push_cast;refine j6 [] [0] (zbp (e:=96) [.sc (.int .i64 s.ino),.sc (.int .i64 (zg s.ino w.fs.xs).kind),.sc (.int .i64 0),.str (zg s.ino w.fs.xs).data,.sc (.int .i64 0),.sl 2 (zQ (zg s.ino w.fs.xs).es)] rfl rfl) rfl (by decide) (by decide) (by simp) (by push_cast) (by push_cast) (fun r1 bx' m hp=>?_);have hp:m=0/\∃ c,(zu pl).length<=c/\c<=9223372036854775807/\r1 = .bs 0 0 6 (zu pl).length c/\bx' = [qA 6 (zu pl) c]:=by rw[hq];exact hp
    obtain ⟨rfl,c',g1,g2,rfl,rfl⟩:=hp;push_cast [hre2];refine j6 [6] [] (Hm (G:=G0) { w with fs:=zI w.fs s } ⟨n,s.ino,false,[]⟩ (qA 6 (zu pl) c') (zu pl).length c' (zG zt) hk hw.kept hh) rfl (by decide) (by decide) (by simp) (by push_cast) (by push_cast [hre2]) (fun r2 bx' m hp=>?_);obtain ⟨rfl,c3,Ls,hLs,k1,k2,rfl,rfl⟩:=hp;rcases hLs with rfl | ⟨X,rfl,hX⟩ | ⟨X,Y,rfl,hX,hY⟩
    ·push_cast [hre2,hre4];exact ⟨[(10,84,4,zL (qK ⟨n,s.ino,false,[]⟩ w.kept),c3),(6,96,6,zu pl,c')],[],jB (zB rfl (WL hkp k1) k1 k2 zZ zw) (zB rfl (by omega) g1 g2 zU zt) (show (10:Nat)≠6 by decide),rfl,rfl,by push_cast [ze,zd,CLe,zf,e,AG,W2]⟩
    ·have hXr:∀ fp fo,C.reL fp fo X=X:=fun fp fo=>zD hX;push_cast [hre2,hre4,hXr];exact ⟨[(11,84,4,zL (qK ⟨n,s.ino,false,[]⟩ w.kept),c3),(6,96,6,zu pl,c')],[],jB (zB rfl (WL hkp k1) k1 k2 zZ zw) (zB rfl (by omega) g1 g2 zU zt) (show (11:Nat)≠6 by decide),rfl,rfl,by push_cast [ze,zd,CLe,zf,e,AG,W2]⟩
    ·have hXr:∀ fp fo,C.reL fp fo X=X:=fun fp fo=>zD hX;have hYr:∀ fp fo,C.reL fp fo Y=Y:=fun fp fo=>zD hY;push_cast [hre2,hre4,hXr,hYr];exact ⟨[(12,84,4,zL (qK ⟨n,s.ino,false,[]⟩ w.kept),c3),(6,96,6,zu pl,c')],[],jB (zB rfl (WL hkp k1) k1 k2 zZ zw) (zB rfl (by omega) g1 g2 zU zt) (show (12:Nat)≠6 by decide),rfl,rfl,by push_cast [ze,zd,CLe,zf,e,AG,W2]⟩
   ·have hpe:w.pool = []:=by simpa using hnil
    have hr0:r=0:=by rw[hpe]at hrl;exact Nat.le_zero.1 hrl
    subst hr0;have hq:zu pl = [[.sc (.int .i64 s.ino),.sc (.int .i64 (zg s.ino w.fs.xs).kind),.sc (.int .i64 0),.str (zg s.ino w.fs.xs).data,.sc (.int .i64 0),.sl 2 (zQ (zg s.ino w.fs.xs).es)]]:=by rw[hpc,hpe];rfl
    push_cast;refine j6 [6] [0] (Uv (e:=96) [] [.sc (.int .i64 s.ino),.sc (.int .i64 (zg s.ino w.fs.xs).kind),.sc (.int .i64 0),.str (zg s.ino w.fs.xs).data,.sc (.int .i64 0),.sl 2 (zQ (zg s.ino w.fs.xs).es)] 0 0 (fun r hr=>by cases hr) rfl (fun r hr=>by cases hr) rfl (by simp) (by simp) (by simp) (by simp)) rfl (by decide) (by decide) (by simp) (by push_cast) (by push_cast [qA]) (fun r1 bx' m hp=>?_);have hp:zrx 6 (0*6) (zu pl) r1 bx' m:=by rw[hq];exact hp
    obtain ⟨rfl,c',g1,g2,⟨rfl,rfl⟩ | ⟨rfl,rfl⟩⟩:=hp
    ·push_cast [hre2];refine j6 [6] [] (Hm (G:=G0) { w with fs:=zI w.fs s } ⟨n,s.ino,false,[]⟩ (qA 6 (zu pl) c') (zu pl).length c' (zG zt) hk hw.kept hh) rfl (by decide) (by decide) (by simp) (by push_cast) (by push_cast [hre2]) (fun r2 bx' m hp=>?_);obtain ⟨rfl,c3,Ls,hLs,k1,k2,rfl,rfl⟩:=hp;rcases hLs with rfl | ⟨X,rfl,hX⟩ | ⟨X,Y,rfl,hX,hY⟩
     ·push_cast [hre2,hre4];exact ⟨[(10,84,4,zL (qK ⟨n,s.ino,false,[]⟩ w.kept),c3),(6,96,6,zu pl,c')],[],jB (zB rfl (WL hkp k1) k1 k2 zZ zw) (zB rfl (by omega) g1 g2 zU zt) (show (10:Nat)≠6 by decide),rfl,rfl,by push_cast [ze,zd,CLe,zf,e,AG,W2]⟩
     ·have hXr:∀ fp fo,C.reL fp fo X=X:=fun fp fo=>zD hX;push_cast [hre2,hre4,hXr];exact ⟨[(11,84,4,zL (qK ⟨n,s.ino,false,[]⟩ w.kept),c3),(6,96,6,zu pl,c')],[],jB (zB rfl (WL hkp k1) k1 k2 zZ zw) (zB rfl (by omega) g1 g2 zU zt) (show (11:Nat)≠6 by decide),rfl,rfl,by push_cast [ze,zd,CLe,zf,e,AG,W2]⟩
     ·have hXr:∀ fp fo,C.reL fp fo X=X:=fun fp fo=>zD hX;have hYr:∀ fp fo,C.reL fp fo Y=Y:=fun fp fo=>zD hY;push_cast [hre2,hre4,hXr,hYr];exact ⟨[(12,84,4,zL (qK ⟨n,s.ino,false,[]⟩ w.kept),c3),(6,96,6,zu pl,c')],[],jB (zB rfl (WL hkp k1) k1 k2 zZ zw) (zB rfl (by omega) g1 g2 zU zt) (show (12:Nat)≠6 by decide),rfl,rfl,by push_cast [ze,zd,CLe,zf,e,AG,W2]⟩
    ·push_cast [hre2];refine j6 [7] [] (Hm (G:=G0) { w with fs:=zI w.fs s } ⟨n,s.ino,false,[]⟩ (qA 6 (zu pl) c') (zu pl).length c' (zG zt) hk hw.kept hh) rfl (by decide) (by decide) (by simp) (by push_cast) (by push_cast [hre2]) (fun r2 bx' m hp=>?_);obtain ⟨rfl,c3,Ls,hLs,k1,k2,rfl,rfl⟩:=hp;rcases hLs with rfl | ⟨X,rfl,hX⟩ | ⟨X,Y,rfl,hX,hY⟩
     ·push_cast [hre2,hre4];exact ⟨[(11,84,4,zL (qK ⟨n,s.ino,false,[]⟩ w.kept),c3),(7,96,6,zu pl,c')],[],jB (zB rfl (WL hkp k1) k1 k2 zZ zw) (zB rfl (by omega) g1 g2 zU zt) (show (11:Nat)≠7 by decide),rfl,rfl,by push_cast [ze,zd,CLe,zf,e,AG,W2]⟩
     ·have hXr:∀ fp fo,C.reL fp fo X=X:=fun fp fo=>zD hX;push_cast [hre2,hre4,hXr];exact ⟨[(12,84,4,zL (qK ⟨n,s.ino,false,[]⟩ w.kept),c3),(7,96,6,zu pl,c')],[],jB (zB rfl (WL hkp k1) k1 k2 zZ zw) (zB rfl (by omega) g1 g2 zU zt) (show (12:Nat)≠7 by decide),rfl,rfl,by push_cast [ze,zd,CLe,zf,e,AG,W2]⟩
     ·have hXr:∀ fp fo,C.reL fp fo X=X:=fun fp fo=>zD hX;have hYr:∀ fp fo,C.reL fp fo Y=Y:=fun fp fo=>zD hY;push_cast [hre2,hre4,hXr,hYr];exact ⟨[(13,84,4,zL (qK ⟨n,s.ino,false,[]⟩ w.kept),c3),(7,96,6,zu pl,c')],[],jB (zB rfl (WL hkp k1) k1 k2 zZ zw) (zB rfl (by omega) g1 g2 zU zt) (show (13:Nat)≠7 by decide),rfl,rfl,by push_cast [ze,zd,CLe,zf,e,AG,W2]⟩
  ·have hz2:¬(zg s.ino w.fs.xs).links-1=0:=by omega
   rw[if_neg hz2,hino]at hg2;have e:XN w n s=({ w with fs:=zI w.fs s,kept:=qK ⟨n,s.ino,false,[]⟩ w.kept },0):=by unfold XN;rw[hh,if_neg hz];rfl
   have hwi:=zek (G:=G0) { w with fs:=zI w.fs s } ⟨n,s.ino,false,[]⟩ hk hw.kept hh;refine fof (fun i=>if i=10 then X5 [(0,.pure),(1,.pure),(2,.pure),(4,.pure),(5,.pure),(6,.pure),(3,.flt [3,4,5]),(7,.bar),(8,.pure),(9,.pure),(10,.bar)] else []) Tryz.func196 ?_;dsimp only[Tryz.f196];push_cast;refine cl h1 ?_;push_cast;refine cl hg ?_;push_cast;refine cl hu ?_;push_cast;refine cl hg2 ?_;push_cast;refine cl hwi ?_;push_cast;exact dn (by push_cast [ze,zd,CLe,zf,e])
end
section
open CA CB
open Go.RowKit
end
section
open CA CB
open Go.RowKit
theorem zqm (hf:FsI f) (p:Lz):(atV f p).1.ino≠0->zk (atV f p).1.ino f.xs=true:=by
 unfold atV;split
 ·exact vY hf (zm p) ⟨0,[],1⟩ fun _=>hf.root
 ·intro h;exact absurd rfl h
theorem zmG (hf:FsI f) (p:Lz):zk (atV f p).1.ino f.xs = !decide ((atV f p).1.ino=0):=by
 by_cases h:(atV f p).1.ino=0
 ·rw[Wo h];cases hh:zk (atV f p).1.ino f.xs with
  | false=>rfl
  | true=>exact absurd h (Uh hf hh)
 ·rw[zqm hf p h,Wp h];rfl
theorem zbh (f:FsV) (hf:FsI f) (hs:FsS f) (p:Lz) (hp:p.length<=1000000):Fun Tryz.prog G0 224 [.agg (fsC f),.str p] (.tup [.agg (jL (isV f p false).1),.sc (.int .i64 (isV f p false).2.2)]) 0:=by
 have h1:=NX f hf hs p hp;have hi:=zmG hf p;have e1:(isV f p false).1=(atV f p).1:=rfl;by_cases h0:(atV f p).2=0
 ·have h0':=eq_true h0;by_cases hz:(atV f p).1.ino=0
  ·have hz':=eq_true hz;rw[Wo hz]at hi;have e3:(isV f p false).2.2=0:=by unfold isV;simp[h0,hi]
   refine fon Tryz.func224 ?_;dsimp only[Tryz.f224];push_cast;refine cl h1 ?_;push_cast [h0',hz'];exact dn (by push_cast [ze,zd,CLe,zf,e1,e3])
  ·have hz':=WH hz;rw[Wp hz]at hi;have e3:(isV f p false).2.2=2:=by unfold isV;simp[h0,hi]
   refine fon Tryz.func224 ?_;dsimp only[Tryz.f224];push_cast;refine cl h1 ?_;push_cast [h0',hz'];exact dn (by push_cast [ze,zd,CLe,zf,e1,e3])
 ·have h0':=WH h0;have e3:(isV f p false).2.2=(atV f p).2:=by unfold isV;simp[h0]
  refine fon Tryz.func224 ?_;dsimp only[Tryz.f224];push_cast;refine cl h1 ?_;push_cast [h0'];exact dn (by push_cast [ze,zd,CLe,zf,e1,e3])
structure zg8 (w:qR):Prop where
 fs:FsS w.fs
 next:zq3 w.fs
 kept:w.kept.length<=10000
 pool:w.pool.length<=10000
theorem zk5 (w:qR) (hw:Vk w) (hs:zg8 w) (p:Lz) (hp:p.length<=1000000) (hpl:qO p=true) (k:Int) (t:Lz) (ht:t.length<=10000):Fun Tryz.prog G0 187 [XX w,.str p,.sc (.int .i64 k),.str t] (.tup [XX (YG w p k t).1,.sc (.int .i64 (YG w p k t).2)]) 0:=by
 have h1:=zbh w.fs hw.fs hs.fs p hp;by_cases h0:(isV w.fs p false).2.2=0
 ·have h0':=eq_true h0;have hfr:=J2 hw.fs hpl h0;have hln:=zfs hw.fs hpl (Vl h0);have hln:(isV w.fs p false).1.name.length<=300:=hln;have hc:=zcA w.fs hw.fs hs.fs hs.next (isV w.fs p false).1 hfr (by omega) k t (by omega);have e:YG w p k t=({ w with fs:=(Hw w.fs (isV w.fs p false).1 k t).1 },(Hw w.fs (isV w.fs p false).1 k t).2):=by unfold YG;rw[if_neg (by simp[h0])]
  refine fon Tryz.func187 ?_;dsimp only[Tryz.f187];push_cast;refine cl h1 ?_;push_cast [h0'];refine cl hc ?_;push_cast;exact dn (by push_cast [ze,zd,CLe,zf,e])
 ·have h0':=WH h0;have e:YG w p k t=(w,(isV w.fs p false).2.2):=by unfold YG;rw[if_pos h0]
  refine fon Tryz.func187 ?_;dsimp only[Tryz.f187];push_cast;refine cl h1 ?_;push_cast [h0'];exact dn (by push_cast [ze,zd,CLe,zf,e])
end
section
open CA CB
open Go.RowKit
theorem zcm (w:qR) (hw:Vk w) (hs:zg8 w) (o:OpV) (ho:yu o) (pa:qO o.a=true) (pb:qO o.b=true):Fun Tryz.prog G0 191 [XX w,.agg (opL o)] (.tup [XX (jV w o).1,.sc (.int .i64 (jV w o).2)]) 0:=by
 have h1:=yw w.fs hw.fs hs.fs o.a ho.1;have h2:=zbh w.fs hw.fs hs.fs o.b ho.2.1;unfold opL;by_cases h0:(isV w.fs o.a true).2.2=0
 ·have h0':=eq_true h0;obtain ⟨t1,t2⟩:=jY hw.fs pa h0;have hi:=zX.ino hw.fs t1;have hino:(isV w.fs o.a true).2.1.ino=(isV w.fs o.a true).1.ino:=by rw[t2,(zi hi).2.2]
  by_cases hk:(isV w.fs o.a true).2.1.kind=2
  ·have hk':=eq_true hk;have e:jV w o=(w,11):=by unfold jV;simp[h0,hk]
   refine fon Tryz.func191 ?_;dsimp only[Tryz.f191];push_cast;refine cl h1 ?_;push_cast [h0',hk'];exact dn (by push_cast [ze,zd,CLe,zf,e])
  ·have hk':=WH hk;by_cases hb:(isV w.fs o.b false).2.2=0
   ·have hb':=eq_true hb;have hfree:=J2 hw.fs pb hb;have hne:(isV w.fs o.b false).1.dir≠(isV w.fs o.a true).2.1.ino:=fun e=>by
     rw[hino]at e;have:=hfree.kind;rw[e,←t2]at this;exact hk this
    have hn:=zjl w.fs hw.fs hs.fs (isV w.fs o.b false).1 hfree (isV w.fs o.a true).2.1.ino (by rw[hino];exact hi) hne;have e:jV w o=({ w with fs:=ZW w.fs (isV w.fs o.b false).1 (isV w.fs o.a true).2.1.ino },0):=by unfold jV;simp[h0,hk,hb]
    refine fon Tryz.func191 ?_;dsimp only[Tryz.f191];push_cast;refine cl h1 ?_;push_cast [h0',hk'];refine cl h2 ?_;push_cast [hb'];refine cl hn ?_;push_cast;exact dn (by push_cast [ze,zd,CLe,zf,e,hb])
   ·have hb':=WH hb;have e:jV w o=(w,(isV w.fs o.b false).2.2):=by unfold jV;simp[h0,hk,hb]
    refine fon Tryz.func191 ?_;dsimp only[Tryz.f191];push_cast;refine cl h1 ?_;push_cast [h0',hk'];refine cl h2 ?_;push_cast [hb'];exact dn (by push_cast [ze,zd,CLe,zf,e])
 ·have h0':=WH h0;have e:jV w o=(w,(isV w.fs o.a true).2.2):=by unfold jV;simp[h0]
  refine fon Tryz.func191 ?_;dsimp only[Tryz.f191];push_cast;refine cl h1 ?_;push_cast [h0'];exact dn (by push_cast [ze,zd,CLe,zf,e])
end
section
open CA CB
open Go.RowKit
theorem zdC (w:qR) (hw:Vk w) (hs:zg8 w) (o:OpV) (s:zO) (hsp:zX w.fs s) (he:(zg s.ino w.fs.xs).es = []):yc Tryz.prog G0 195 [.agg (jL s),.ptr 0 0,.ptr 1 0] [Mi w,opL o] 0 (.tup [XX (XN w o.slot s).1,.sc (.int .i64 (XN w o.slot s).2)]) [Mi w,opL o] 0:=by
 have h:=zkt w hw hs.fs (by have:=hs.kept;omega) (by have:=hs.pool;omega) o.slot s hsp he;unfold opL;refine foB (fun _=>[]) Tryz.func195 ?_;dsimp only[Tryz.f195];push_cast;refine cl h ?_;push_cast;exact ⟨[],rfl,rfl,by push_cast [ze,zd,CLe,zf],by push_cast [ze,zd,CLe,zf]⟩
theorem zjd (w:qR) (hw:Vk w) (hs:zg8 w) (o:OpV) (ho:yu o) (pa:qO o.a=true):yc Tryz.prog G0 194 [XX w,.str o.a,.clo (.func 195) [] [.ptr 0 0,.ptr 1 0]] [Mi w,opL o] 0 (.tup [XX (jb w o).1,.sc (.int .i64 (jb w o).2)]) [Mi w,opL o] 0:=by
 have h1:=yw w.fs hw.fs hs.fs o.a ho.1;by_cases h0:(isV w.fs o.a true).2.2=0
 ·have h0':=eq_true h0;obtain ⟨t1,t2⟩:=jY hw.fs pa h0;by_cases hes:(isV w.fs o.a true).2.1.es = []
  ·have hel:(0<(zQ (isV w.fs o.a true).2.1.es).length)=False:=WH (by rw[hes];simp);have he:(zg (isV w.fs o.a true).1.ino w.fs.xs).es = []:=by rw[←t2];exact hes
   have hd:=zdC w hw hs o (isV w.fs o.a true).1 t1 he;have e:jb w o=XN w o.slot (isV w.fs o.a true).1:=by unfold jb;simp[h0,hes]
   unfold opL at hd ⊢;refine foB (fun _=>[]) Tryz.func194 ?_;dsimp only[Tryz.f194];push_cast;refine cl h1 ?_;push_cast [h0',hel];refine Xp [0,1] [] hd rfl (by decide) (by decide) (by simp) (by push_cast) (by push_cast) ?_;push_cast;exact ⟨[],rfl,rfl,by push_cast [ze,zd,CLe,zf],by push_cast [ze,zd,CLe,zf,e]⟩
  ·have hel:(0<(zQ (isV w.fs o.a true).2.1.es).length)=True:=eq_true (by rw[We];exact WE.2 hes);have e:jb w o=(w,5):=by unfold jb;simp[h0,hes]
   unfold opL;refine foB (fun _=>[]) Tryz.func194 ?_;dsimp only[Tryz.f194];push_cast;refine cl h1 ?_;push_cast [h0',hel];exact ⟨[],rfl,rfl,by push_cast [ze,zd,CLe,zf],by push_cast [ze,zd,CLe,zf,e]⟩
 ·have h0':=WH h0;have e:jb w o=(w,(isV w.fs o.a true).2.2):=by unfold jb;simp[h0]
  unfold opL;refine foB (fun _=>[]) Tryz.func194 ?_;dsimp only[Tryz.f194];push_cast;refine cl h1 ?_;push_cast [h0'];exact ⟨[],rfl,rfl,by push_cast [ze,zd,CLe,zf],by push_cast [ze,zd,CLe,zf,e]⟩
theorem zgl (w:qR) (hw:Vk w) (hs:zg8 w) (o:OpV) (ho:yu o) (pa:qO o.a=true) (hd:o.d.length<=10000):Fun Tryz.prog G0 190 [XX w,.agg (opL o)] (.tup [XX (YG w o.a 3 o.d).1,.sc (.int .i64 (YG w o.a 3 o.d).2)]) 0:=by
 have h:=zk5 w hw hs o.a ho.1 pa 3 o.d hd;unfold opL;refine fon Tryz.func190 ?_;dsimp only[Tryz.f190];push_cast;refine cl h ?_;push_cast;exact dn
theorem ze0 (w:qR) (hw:Vk w) (hs:zg8 w) (o:OpV) (ho:yu o) (pa:qO o.a=true):Fun Tryz.prog G0 193 [XX w,.agg (opL o)] (.tup [XX (jb w o).1,.sc (.int .i64 (jb w o).2)]) 0:=by
 have h:=zjd w hw hs o ho pa;unfold opL at h ⊢;refine fon Tryz.func193 ?_;dsimp only[Tryz.f193];push_cast;refine Xp [0,1] [] h rfl (by decide) (by decide) (by simp) (by push_cast) (by push_cast) ?_;push_cast;exact dn
end
section
open Go.RowKit
section
variable {G:zp}
abbrev zoH:List C:=[.clo (.func 186) [] [],.clo (.func 188) [] [],.clo (.func 189) [] [],.clo (.func 190) [] [],.clo (.func 191) [] [],.clo (.func 192) [] [],.clo (.func 193) [] [],.clo (.func 197) [] [],.clo (.func 200) [] [],.clo (.func 201) [] []]
theorem UT:Fun Tryz.prog G 160 [] (.mo 0 196 (.int .i64 [1,2,3,4,5,6,7,8,9,10]) zoH) 1:=by
 refine fon Tryz.func160 ?_;dsimp only[Tryz.f160];push_cast [HG,Uw,Oo,OB,Oh,reduceIte,Int.reduceEq];exact ⟨[.inl 0],rfl,rfl,by push_cast [ze,zd,CLe,zf]⟩
end
end
section
open CA CB
open Go.RowKit
theorem Fun.g0 {G':zp} {f:FuncId} {n:Nat} (h:Fun P G0 f args r n):Fun P G' f args r n:=⟨h.1,fun R vs hg hv=>h.2 R vs (y4 R) hv⟩
end
section
open Go.RowKit
section
variable {G:zp}
theorem V0 (o:OpV):Fun Tryz.prog G 110 [.agg (opL o)] (.sc (.bool (decide (o.kind=3∨o.kind=7)))) 0:=by
 unfold opL;by_cases h:o.kind=3
 ·have h':=eq_true h;refine fon Tryz.func110 ?_;dsimp only[Tryz.f110];push_cast [h'];exact dn (by push_cast [ze,zd,CLe,zf,h',true_or,decide_true])
 ·have h':=WH h;refine fon Tryz.func110 ?_;dsimp only[Tryz.f110];push_cast [h'];exact dn (by push_cast [ze,zd,CLe,zf,h',false_or])
end
end
section
open Go.RowKit
abbrev zo8 (d:qn):List C:=[.sc (.int .i64 d.w.fs.maxI),.sc (.int .i64 d.w.fs.maxB),.sc (.int .i64 d.w.fs.next),.sl 6 (zu d.w.fs.xs),.sl 4 (zL d.w.kept),.sl 6 (zu d.w.pool),.sl 5 (d.ops.map opL),.sl 1 (zF d.diags),.sc (.int .i64 d.status),.sc (.int .i64 d.slot)]
abbrev Mp (d:qn):C:=.agg (zo8 d)
section
variable {G:zp}
end
end
section
open CA CB
open Go.RowKit
theorem zcj [DecidableEq κ] {key:α->κ} {n:κ} {xs:List α} {i:Nat} (h:i<xs.length) (h0:Yo key n (xs.take i)=false) :
  (key xs[i]=n->jO key n xs=some xs[i])/\(key xs[i]≠n->Yo key n (xs.take (i+1))=false):=by
 have e:xs=xs.take i++xs[i] :: xs.drop (i+1):=by rw[←Oe h,Og]
 refine ⟨fun hk=>?_,fun hk=>?_⟩
 ·have q:jO key n xs=jO key n (xs.take i++xs[i] :: xs.drop (i+1)):=WA _ e;rw[q];unfold jO;unfold Yo at h0;rw[Om]at h0;rw[List.find?_append,Bf.2 fun x hx=>h0 x hx,Option.none_or,Av,Wo hk]
 ·unfold Yo at h0 ⊢;rw[W1,Wa h,BL,h0];simp[hk]
theorem zkm [DecidableEq κ] {key:α->κ} {n:κ} {xs:List α} (h0:Yo key n xs=false):jO key n xs=none:=by
 rw[jq]at h0;cases h:jO key n xs with
 | none=>rfl
 | some x=>rw[h]at h0;cases h0
section
variable {G:zp}
theorem ya (es:List z6) (n:Lz) (hl:es.length<=100000):Fun Tryz.prog G 148 [.sl 2 (zQ es),.str n] (.tup [.sc (.int .i64 (zP n es)),.sc (.bool (Xu n es))]) 0:=by
 have hll:(zQ es).length=es.length:=We ..;refine fon Tryz.func148 ?_;dsimp only[Tryz.f148];push_cast;refine loop (fun i:Nat=>⟨[(0,.sl 2 (zQ es)),(1,.str n),(6,.sc (.int .i64 i))],[],0,0⟩) (fun i=>i<=es.length/\Yo z6.name n (es.take i)=false) (fun i=>es.length-i) 0 ⟨Wc _,rfl⟩ ?_ ?_
 ·exact wk
 ·rintro i ⟨h1,h2⟩;by_cases h:i<es.length
  ·have g1:=Yx es i h;obtain ⟨q1,q2⟩:=zcj h h2;by_cases he:es[i].name=n
   ·have q:=q1 he;have e1:Xu n es=true:=by unfold Xu;rw[jq,q];rfl
    have e2:zP n es=es[i].ino:=by unfold zP;rw[q]
    push_cast [hll,h,g1,he]
    repeat refine an ?_
    exact dn (by push_cast [ze,zd,CLe,zf,e1,e2])
   ·push_cast [hll,h,g1,he]
    repeat refine an ?_
    exact ⟨i+1,⟨h,q2 he⟩,by omega,wk⟩
  ·rw[Wh (by omega)]at h2;have e1:Xu n es=false:=h2;have e2:zP n es=0:=by unfold zP;rw[zkm h2]
   push_cast [hll,h];exact dn (by push_cast [ze,zd,CLe,zf,e1,e2])
end
theorem zmJ (f:FsV) (hf:FsI f) (hs:FsS f) (p:Lz) (hp:p.length<=1000000):Fun Tryz.prog G0 137 [.agg (fsC f),.str p] (.tup [.agg (jL (atV f p).1),.sc (.int .i64 (atV f p).2)]) 0:=by
 have hpl:=Uk p (by omega);have hlen:=hs.len;have hnl:(zm p).length<=1000000:=by have:=qx p;omega
 cases hpp:Yh p with
 | false =>
  have e:atV f p=(qk,9):=by unfold atV;rw[hpp];rfl
  unfold YN at hpl;rw[hpp]at hpl;refine fof (fun i=>if i=14 then [false,false,false,false,false,false,false,false,true] else []) Tryz.func137 ?_;dsimp only[Tryz.f137];push_cast;refine cl hpl ?_;push_cast;exact dn (by push_cast [ze,zd,CLe,zf,e,qk])
 | true =>
  have e:atV f p=atW f.xs (zm p) ⟨0,[],1⟩:=by unfold atV;rw[hpp];rfl
  unfold YN at hpl;rw[hpp,if_pos rfl]at hpl;generalize zm p=ns at hpl hnl e;have hsl:(zF ns).length=ns.length:=We ..;refine fof (fun i=>if i=14 then [false,false,false,false,false,false,false,false,true] else []) Tryz.func137 ?_;dsimp only[Tryz.f137];push_cast;refine cl hpl ?_;push_cast;refine loop (fun x:Nat×zO=>⟨[(1,.str p),(2,.ptr 0 0),(4,.ptr 1 0),(6,.own 0 9 1 (zF ns)),(8,.ptr 2 0),(9,.sc (.int .i64 x.1))],[fsC f,[.sc (.int .i64 0),.str [],.sc (.int .i64 0)],jL x.2],1,0⟩)
   (fun x=>x.1<=ns.length/\atW f.xs ns ⟨0,[],1⟩=atW f.xs (ns.drop x.1) x.2/\(x.2.ino≠0->zk x.2.ino f.xs=true)) (fun x=>ns.length-x.1) (0,⟨0,[],1⟩) ⟨Wc _,rfl,fun _=>hf.root⟩ ?_ ?_
  ·exact wks [.inl 0] (by push_cast [ze,zd,CLe,zf,hsl])
  rintro ⟨k,s⟩ ⟨hk,hat,hin⟩;simp only at hk hat hin ⊢;by_cases hlt:k<ns.length
  ·have gs:=x5 hlt;have hdr:ns.drop k=ns[k] :: ns.drop (k+1):=Oe hlt;obtain ⟨nm,hnm⟩:∃ nm,ns[k]=nm:=⟨_,rfl⟩;rw[hnm]at gs hdr;by_cases h0:s.ino=0
   ·have hr:atV f p=(qk,1):=by rw[e,hat,hdr];unfold atW;rw[if_pos h0]
    push_cast [hsl,hlt,h0];exact dn (by push_cast [ze,zd,CLe,zf,hr,qk])
   ·have hh:=hin h0;have hg:=j5 (G:=G0) f s.ino (by omega);have hgg:=zi hh;rw[hh]at hg;by_cases hk2:(zg s.ino f.xs).kind=2
    ·have hfd:=ya (G:=G0) (zg s.ino f.xs).es nm (by have:=hs.es hh;omega);have hnx:atW f.xs ns ⟨0,[],1⟩=atW f.xs (ns.drop (k+1)) ⟨(zg s.ino f.xs).ino,nm,zP nm (zg s.ino f.xs).es⟩:=by
      rw[hat,hdr]
      conv=>lhs;unfold atW
      rw[if_neg h0,if_neg (by simp[hk2])]
     have hin2:zP nm (zg s.ino f.xs).es≠0->zk (zP nm (zg s.ino f.xs).es) f.xs=true:=fun hne=>by
      refine kg hf hh ?_;unfold Xu;rw[jq];cases hq:jO z6.name nm (zg s.ino f.xs).es with
      | some e=>rfl
      | none=>unfold zP at hne;rw[hq]at hne;exact absurd rfl hne
     push_cast [hsl,hlt,h0];refine cl hg ?_;push_cast [hk2,gs]
     repeat refine an ?_
     refine cl hfd ?_;push_cast [gs]
     repeat refine an ?_
     exact ⟨(k+1,⟨(zg s.ino f.xs).ino,nm,zP nm (zg s.ino f.xs).es⟩),⟨hlt,hnx,hin2⟩,by simp only;omega,wks [.inl 0]⟩
    ·have hr:atV f p=(qk,3):=by rw[e,hat,hdr];unfold atW;rw[if_neg h0,if_pos hk2]
     push_cast [hsl,hlt,h0];refine cl hg ?_;push_cast [hk2];exact dn (by push_cast [ze,zd,CLe,zf,hr,qk])
  ·have hd0:ns.drop k = []:=OM (by omega);have hr:atV f p=(s,0):=by rw[e,hat,hd0];rfl
   push_cast [hsl,hlt];exact dn (by push_cast [ze,zd,CLe,zf,hr])
end
section
open CA CB
open Go.RowKit
theorem zh8 {f:C} (hx:x.es = []) (R:Env) (vs:List Value) (h:zy R zJ [f,.agg [.sc (.int .i64 x.ino),.sc (.int .i64 x.kind),.sc (.int .i64 x.links),.str x.data,.sc (.int .i64 x.parent),.sc (.slice none 0 0)]] vs):zy R zJ [f,.agg (YB x)] vs:=by
 obtain ⟨v1,us1,rfl,h1,h⟩:=zh.1 h;obtain ⟨v2,us2,rfl,h2,h⟩:=zh.1 h;refine zh.2 ⟨_,_,rfl,h1,zh.2 ⟨_,_,rfl,?_,h⟩⟩;obtain ⟨ws,rfl,hw⟩:=j7.1 h2;obtain ⟨w1,t1,e1,g1,hw⟩:=zh.1 hw;obtain ⟨w2,t2,e2,g2,hw⟩:=zh.1 hw;obtain ⟨w3,t3,e3,g3,hw⟩:=zh.1 hw;obtain ⟨w4,t4,e4,g4,hw⟩:=zh.1 hw;obtain ⟨w5,t5,e5,g5,hw⟩:=zh.1 hw;obtain ⟨w6,t6,e6,g6,hw⟩:=zh.1 hw;refine j7.2 ⟨ws,rfl,?_⟩;have g6':Rep R zJ (.sl 2 (zQ x.es)) w6:=by rw[hx];exact zbs g6
 rw[e1,e2,e3,e4,e5,e6];exact zh.2 ⟨_,_,rfl,g1,zh.2 ⟨_,_,rfl,g2,zh.2 ⟨_,_,rfl,g3,zh.2 ⟨_,_,rfl,g4,zh.2 ⟨_,_,rfl,g5,zh.2 ⟨_,_,rfl,g6',hw⟩⟩⟩⟩⟩⟩
theorem zaq (f:FsV) (x:zn) (hx:x.es = []) (hl:f.xs.length<=90000) :
  Fun Tryz.prog G 97 [.agg (fsC f),.agg [.sc (.int .i64 x.ino),.sc (.int .i64 x.kind),.sc (.int .i64 x.links),.str x.data,.sc (.int .i64 x.parent),.sc (.slice none 0 0)]] (.agg [.sc (.int .i64 f.maxI),.sc (.int .i64 f.maxB),.sc (.int .i64 f.next),.own 0 96 6 (zu (qv x f.xs))]) 1:=
 (zah f x hl).argsLe (zh8 hx)
end
section
open CA CB
open Go.RowKit
theorem kU {i:Nat} (h:i<ks.length):Jm (ks.take (i+1))=ks[i].slot:=by
 have q:(ks.take (i+1)).getLast?=some ks[i]:=by
  rw[List.getLast?_eq_getElem?,show (ks.take (i+1)).length-1=i by rw[W6];omega,Bn (by omega),Wa h]
 unfold Jm;rw[q]
section
variable {G:zp}
theorem Hn (w:qR):Fun Tryz.prog G 114 [XX w] (.agg [.sc (.int .i64 0),.sc (.int .i64 0),.sc (.int .i64 0),.sl 6 (zu w.pool)]) 0:=by
 refine fon Tryz.func114 ?_;dsimp only[Tryz.f114];push_cast;exact dn
theorem UR (w:qR) (hk:w.kept.length<=100000) (hR:qT Jn zV.slot w.kept) (hp:∀ k∈w.kept,1<=k.slot):Fun Tryz.prog G 29 [XX w] (.sc (.int .i64 (Jm w.kept))) 0:=by
 obtain ⟨f,ks,pool⟩:=w;have hk:ks.length<=100000:=hk;have hll:(zL ks).length=ks.length:=We ..;show Fun Tryz.prog G 29 [XX ⟨f,ks,pool⟩] (.sc (.int .i64 (Jm ks))) 0;have h0:Jm []=0:=rfl;refine fon Tryz.func29 ?_;dsimp only[Tryz.f29];push_cast;refine loop (fun i:Nat=>⟨[(1,.ptr 0 0),(3,.sc (.int .i64 (Jm (ks.take i)))),(4,.sc (.int .i64 i))],[Mi ⟨f,ks,pool⟩],0,0⟩) (fun i=>i<=ks.length) (fun i=>ks.length-i) 0 (Wc _) ?_ ?_
 ·exact wk (by push_cast [ze,zd,CLe,zf,Oy,h0])
 ·intro i hi;by_cases h:i<ks.length
  ·have g1:=JJ ks i h;have e1:Jm (ks.take (i+1))=ks[i].slot:=kU h;have e2:(if ks[i].slot>Jm (ks.take i) then ks[i].slot else Jm (ks.take i))=ks[i].slot:=by
    suffices hle:Jm (ks.take i)<=ks[i].slot by split<;>omega
    rcases O7 i with rfl | hpos
    ·have:=hp _ (Wx h);show (0:Int)<=_;omega
    ·obtain ⟨j,rfl⟩:∃ j,i=j+1:=⟨i-1,by omega⟩;have hj:j<ks.length:=by omega
     rw[kU hj];have:=(WV.1 hR) j (j+1) hj h (by omega);have:ks[j].slot<ks[j+1].slot:=WQ this;omega
   push_cast [hll,h,g1]
   repeat refine an ?_
   exact ⟨i+1,h,by omega,wk (by push_cast [ze,zd,CLe,zf,e1,e2])⟩
  ·rw[Wh (by omega)];push_cast [hll,h];exact dn
end
end
section
open CA CB
open Go.RowKit
end
section
open CA CB
open Go.RowKit
def zta (n:Int):List C:=[.sc (.int .i64 n)]
abbrev zr2 (l:List Int):List (List C):=l.map zta
theorem vv (l:List Int):(zr2 l).length=l.length:=We _
theorem zfp (l:List Int) (n:Int):zr2 l++[[.sc (.int .i64 n)]]=zr2 (l++[n]):=by simp[zta]
attribute [push_cast] vv zfp
abbrev zhX (l:List OpV):List (List C):=l.map opL
theorem vw (l:List OpV):(zhX l).length=l.length:=We _
theorem ze4 (l:List OpV) (k:Nat) (h:k<l.length):(zhX l)[k]?=some (opL (l[k]'h)):=by rw[Ws,Wa h];rfl
theorem zeI (l:List OpV) (k:Nat):(zhX l).take k=zhX (l.take k):=List.map_take.symm
theorem zhA (l:List OpV) (k:Nat):(zhX l).drop k=zhX (l.drop k):=List.map_drop.symm
attribute [push_cast] vw zeI zhA
end
section
open Go.RowKit
def zlK (l:List OpV):List Int:=(l.filter fun o=>NQ o.kind).map (·.slot)
end
section
open Go.RowKit
def znN (o p:OpV):Bool:=decide (o.kind=p.kind)&&decide (o.slot=p.slot)&&decide (o.a=p.a)&&decide (o.b=p.b)&&decide (o.d=p.d)
def J5:List OpV->List OpV->Bool
 | [],[]=>true
 | o :: r,p :: s=>znN o p&&J5 r s
 | _,_=>false
theorem XM:∀ l m:List OpV,J5 l m=true↔l.length=m.length/\∀ (j:Nat) (h:j<l.length) (h':j<m.length),znN (l[j]'h) (m[j]'h')=true
 | [],[]=>by simp[J5]
 | [],p :: s=>by simp[J5]
 | o :: r,[]=>by simp[J5]
 | o :: r,p :: s=>by
  have ih:=XM r s;simp only[J5,Wt,ih,Wg];constructor
  ·rintro ⟨h1,h2,h3⟩;refine ⟨by omega,fun j hj hj'=>?_⟩;cases j with
   | zero=>exact h1
   | succ j=>exact h3 j (by omega) (by omega)
  ·rintro ⟨h1,h2⟩;exact ⟨h2 0 (by omega) (by omega),by omega,fun j hj hj'=>h2 (j+1) (by omega) (by omega)⟩
end
section
open CA CB
open Go.RowKit
end
section
open CA CB
open Go.RowKit
end
section
open CA CB
open Go.RowKit
def Jv (f:FsV):Prop:=1<=f.maxI/\f.maxI<=1073741824/\0<=f.maxB/\f.maxB<=1073741824/\f.next<=1099511627776/\(∀ x∈f.xs,1<=x.ino/\x.ino<f.next)/\z8 f.xs/\zk 1 f.xs=true/\(zg 1 f.xs).kind=2
instance (f:FsV):Decidable (Jv f):=by unfold Jv;infer_instance
def YL (f:FsV):Prop:=∀ x∈f.xs,∀ e∈x.es,zk e.ino f.xs=true
instance (f:FsV):Decidable (YL f):=by unfold YL;infer_instance
def HH (f:FsV):Prop:=(f.xs.length:Int)<=f.maxI/\(qe f.xs:Int)<=f.maxB
instance (f:FsV):Decidable (HH f):=by unfold HH;infer_instance
theorem qq {l:List α} {i:Nat} (h:i<l.length) {P:α->Prop} (h1:∀ x∈l.take i,P x) (h2:P l[i]):∀ x∈l.take (i+1),P x:=fun x hx=>by
 rw[W1,Wa h]at hx;rcases WG.1 hx with hx | hx
 ·exact h1 x hx
 ·simp at hx;subst hx;exact h2
section
variable {G:zp}
theorem yr (f:FsV) (hl:f.xs.length<=100000):Fun Tryz.prog G 162 [.agg (fsC f)] (.sc (.bool (decide (Jv f)))) 0:=by
 have hll:(zu f.xs).length=f.xs.length:=We ..;refine fon Tryz.func162 ?_;dsimp only[Tryz.f162];by_cases e0:f.maxI<1
 case pos =>
  have hn:¬Jv f:=fun h=>by have:=h.1;omega
  push_cast [e0];exact dn (by push_cast [ze,zd,CLe,zf,hn])
 by_cases e1:1073741824<f.maxI
 case pos =>
  have hn:¬Jv f:=fun h=>by have:=h.2.1;omega
  push_cast [e0,e1];exact dn (by push_cast [ze,zd,CLe,zf,hn])
 by_cases e2:f.maxB<0
 case pos =>
  have hn:¬Jv f:=fun h=>by have:=h.2.2.1;omega
  push_cast [e0,e1,e2];exact dn (by push_cast [ze,zd,CLe,zf,hn])
 by_cases e3:1073741824<f.maxB
 case pos =>
  have hn:¬Jv f:=fun h=>by have:=h.2.2.2.1;omega
  push_cast [e0,e1,e2,e3];exact dn (by push_cast [ze,zd,CLe,zf,hn])
 by_cases e4:1099511627776<f.next
 case pos =>
  have hn:¬Jv f:=fun h=>by have:=h.2.2.2.2.1;omega
  push_cast [e0,e1,e2,e3,e4];exact dn (by push_cast [ze,zd,CLe,zf,hn])
 push_cast [e0,e1,e2,e3,e4];refine loop (fun i:Nat=>⟨[(1,.ptr 0 0),(3,.sc (.int .i64 i))],[fsC f],0,0⟩) (fun i=>i<=f.xs.length/\∀ x∈f.xs.take i,1<=x.ino/\x.ino<f.next) (fun i=>f.xs.length-i) 0 ⟨Wc _,fun x hx=>by simp at hx⟩ ?_ ?_
 ·exact wk
 ·rintro i ⟨h1,h2⟩;by_cases h:i<f.xs.length
  ·have g1:=js f.xs i h;by_cases c1:f.xs[i].ino<1
   ·have hn:¬Jv f:=fun h'=>by have:=h'.2.2.2.2.2.1 _ (Wx h);omega
    push_cast [hll,h,g1,c1]
    repeat refine an ?_
    exact dn (by push_cast [ze,zd,CLe,zf,hn])
   ·by_cases c2:f.next<=f.xs[i].ino
    ·have hn:¬Jv f:=fun h'=>by have:=h'.2.2.2.2.2.1 _ (Wx h);omega
     push_cast [hll,h,g1,c1,c2]
     repeat refine an ?_
     exact dn (by push_cast [ze,zd,CLe,zf,hn])
    ·push_cast [hll,h,g1,c1,c2]
     repeat refine an ?_
     exact ⟨i+1,⟨h,qq h h2 (by omega)⟩,by omega,wk⟩
  ·rw[Wh (by omega)]at h2;have hf:Jv f↔z8 f.xs/\zk 1 f.xs=true/\(zg 1 f.xs).kind=2:=⟨fun h=>h.2.2.2.2.2.2,fun h=>⟨by omega,by omega,by omega,by omega,by omega,h2,h⟩⟩;push_cast [hll,h];refine cl (j5 f 1 hl) ?_;push_cast;by_cases c1:z8 f.xs
   ·cases c2:zk 1 f.xs with
    | true =>
     refine cl (UE f hl) ?_;push_cast [Wo c1,c2];exact dn (by push_cast [ze,zd,CLe,zf,hf,c1,c2])
    | false =>
     have hn:¬Jv f:=fun h=>by have:=(hf.1 h).2.1;rw[c2]at this;cases this
     refine cl (UE f hl) ?_;push_cast [Wo c1,c2];exact dn (by push_cast [ze,zd,CLe,zf,hn])
   ·have hn:¬Jv f:=fun h=>c1 (hf.1 h).1;refine cl (UE f hl) ?_;push_cast [Wp c1];exact dn (by push_cast [ze,zd,CLe,zf,hn])
theorem xG (f:FsV) (hf:FsS f):Fun Tryz.prog G 164 [.agg (fsC f)] (.sc (.bool (decide (YL f)))) 0:=by
 have hll:(zu f.xs).length=f.xs.length:=We ..;have h40:=hf.len;refine fof (fun i=>if i=7 then J4 15 16 else []) Tryz.func164 ?_;dsimp only[Tryz.f164];push_cast;refine loop (fun i:Nat=>⟨[(1,.ptr 0 0),(3,.sc (.int .i64 i))],[fsC f],0,0⟩) (fun i=>i<=f.xs.length/\∀ x∈f.xs.take i,∀ e∈x.es,zk e.ino f.xs=true) (fun i=>f.xs.length-i) 0 ⟨Wc _,fun x hx=>by simp at hx⟩ ?_ ?_
 ·exact wk
 ·rintro i ⟨h1,h2⟩;by_cases h:i<f.xs.length
  ·have g1:=js f.xs i h;have he:=(hf.node _ (Wx h)).1;have hle:(zQ f.xs[i].es).length=f.xs[i].es.length:=We ..;push_cast [hll,h];refine loop (fun k:Nat=>⟨[(1,.ptr 0 0),(3,.sc (.int .i64 i)),(4,.sc (.int .i64 k))],[fsC f],0,0⟩) (fun k=>k<=f.xs[i].es.length/\∀ e∈f.xs[i].es.take k,zk e.ino f.xs=true) (fun k=>f.xs[i].es.length-k) 0 ⟨Wc _,fun x hx=>by simp at hx⟩ ?_ ?_
   ·exact wk
   ·rintro k ⟨h3,h4⟩;by_cases hk:k<f.xs[i].es.length
    ·have g2:=Yx f.xs[i].es k hk;push_cast [g1,hle,hk,g2]
     repeat refine an ?_
     refine cl (j5 f f.xs[i].es[k].ino (by omega)) ?_;push_cast;cases hh:zk f.xs[i].es[k].ino f.xs with
     | true =>
      push_cast [hh]
      repeat refine an ?_
      exact ⟨k+1,⟨hk,qq hk h4 hh⟩,by omega,wk⟩
     | false =>
      have hn:¬YL f:=fun h'=>by have:=h' _ (Wx h) _ (Wx hk);rw[hh]at this;cases this
      push_cast [hh];exact dn (by push_cast [ze,zd,CLe,zf,hn])
    ·rw[Wh (by omega)]at h4;push_cast [g1,hle,hk]
     repeat refine an ?_
     exact ⟨i+1,⟨h,qq h h2 h4⟩,by omega,wk⟩
  ·rw[Wh (by omega)]at h2;have hn:YL f:=h2;push_cast [hll,h];exact dn (by push_cast [ze,zd,CLe,zf,hn])
theorem zav (f:FsV) (hf:FsS f) (hb:qe f.xs<=100000000):Fun Tryz.prog G 142 [.agg (fsC f),.sc (.int .i64 0),.sc (.int .i64 0)] (.sc (.bool (decide (HH f)))) 0:=by
 have hll:(zu f.xs).length=f.xs.length:=We ..;have h40:=hf.len;refine fon Tryz.func142 ?_;dsimp only[Tryz.f142];by_cases c1:f.maxI<f.xs.length
 ·have hn:¬HH f:=fun h=>by have:=h.1;omega
  push_cast [hll,c1]
  repeat refine an ?_
  exact dn (by push_cast [ze,zd,CLe,zf,hn])
 ·have hn:HH f↔(qe f.xs:Int)<=f.maxB:=⟨fun h=>h.2,fun h=>⟨by omega,h⟩⟩;push_cast [hll,c1]
  repeat refine an ?_
  refine cl (zdZ f hf) ?_;push_cast
  repeat refine an ?_
  exact dn (by push_cast [ze,zd,CLe,zf,hn])
end
end
section
open Go.RowKit
abbrev VP (x:zn) (es:List z6):List (Int×Int):=es.map fun e=>(e.ino,x.ino)
def qm (xs:List zn):List (Int×Int):=xs.flatMap fun x=>VP x x.es
def Zt (n:Int) (l:List (Int×Int)):Nat:=(l.filter fun p=>p.1==n).length
def Uq (n:Int) (l:List (Int×Int)):Int:=(((l.filter fun p=>p.1==n).getLast?).map (·.2)).getD 0
theorem znk {p:Int×Int}:Zt n (l++[p])=Zt n l+if p.1=n then 1 else 0:=by
 unfold Zt;rw[OW,Wj];by_cases h:p.1=n<;>simp[h]
theorem ziS {p:Int×Int}:Uq n (l++[p])=if p.1=n then p.2 else Uq n l:=by
 unfold Uq;rw[OW];by_cases h:p.1=n<;>simp[h]
theorem zc1 {i:Nat} (h:i<xs.length):qm (xs.take (i+1))=qm (xs.take i)++VP xs[i] xs[i].es:=by
 unfold qm;rw[W1,Wa h,Bl];simp
theorem zcS {es:List z6} (h:k<es.length):VP x (es.take (k+1))=VP x (es.take k)++[(es[k].ino,x.ino)]:=by
 rw[W1,Wa h,Option.toList_some];exact W9
theorem zf5 (hf:∀ x∈xs,x.es.length<=10000):(qm xs).length<=xs.length*10000:=by
 induction xs with
 | nil=>exact Wb _
 | cons x r ih =>
  have h1:=hf x Wk;have h2:=ih fun y hy=>hf y (Wl _ hy);unfold qm at h2 ⊢;rw[As,Wj,We,Wg];omega
theorem zqT:Zt n l<=l.length:=OH _ _
def Vp (xs:List zn) (x:zn):Prop:=x.links=Zt x.ino (qm xs)/\if x.ino=1 then Zt x.ino (qm xs)=0/\x.parent=1 else 1<=Zt x.ino (qm xs)/\(x.kind=2->Zt x.ino (qm xs)=1/\x.parent=Uq x.ino (qm xs))
instance (xs:List zn) (x:zn):Decidable (Vp xs x):=by unfold Vp;infer_instance
def Y5 (f:FsV):Prop:=∀ x∈f.xs,Vp f.xs x
instance (f:FsV):Decidable (Y5 f):=by unfold Y5;infer_instance
section
variable {G:zp}
theorem zcz (f:FsV) (n:Int) (hf:FsS f):Fun Tryz.prog G 203 [.agg (fsC f),.sc (.int .i64 n)] (.tup [.sc (.int .i64 (Zt n (qm f.xs):Nat)),.sc (.int .i64 (Uq n (qm f.xs)))]) 0:=by
 have hll:(zu f.xs).length=f.xs.length:=We ..;have h40:=hf.len;have hc0:Zt n (qm [])=0:=rfl;have hl0:Uq n (qm [])=0:=rfl;refine fon Tryz.func203 ?_;dsimp only[Tryz.f203];push_cast;refine loop (fun i:Nat=>⟨[(1,.sc (.int .i64 n)),(2,.ptr 0 0),(6,.sc (.int .i64 (Zt n (qm (f.xs.take i)):Nat))),(7,.sc (.int .i64 (Uq n (qm (f.xs.take i))))),(8,.sc (.int .i64 i))],[fsC f],0,0⟩) (fun i=>i<=f.xs.length) (fun i=>f.xs.length-i) 0 (Wc _) ?_ ?_
 ·exact wk (by push_cast [ze,zd,CLe,zf,Oy,hc0,hl0])
 ·intro i h1;by_cases h:i<f.xs.length
  ·have g1:=js f.xs i h;have hle:(zQ f.xs[i].es).length=f.xs[i].es.length:=We ..;have hpl:(qm (f.xs.take i)).length<=i*10000:=by
    have:=zf5 (xs:=f.xs.take i) fun x hx=>(hf.node x (Ww hx)).1;rw[W6]at this;exact WM this (WS _ (Nat.min_le_left _ _))
   have h40e:=(hf.node _ (Wx h)).1;push_cast [hll,h];refine loop (fun k:Nat=>⟨[(1,.sc (.int .i64 n)),(2,.ptr 0 0),(6,.sc (.int .i64 (Zt n (qm (f.xs.take i)++VP f.xs[i] (f.xs[i].es.take k)):Nat))),(7,.sc (.int .i64 (Uq n (qm (f.xs.take i)++VP f.xs[i] (f.xs[i].es.take k))))),(8,.sc (.int .i64 i)),(9,.sc (.int .i64 k))],[fsC f],0,0⟩) (fun k=>k<=f.xs[i].es.length) (fun k=>f.xs[i].es.length-k) 0 (Wc _) ?_ ?_
   ·exact wk (by push_cast [ze,zd,CLe,zf,Oy,Oi])
   ·intro k hk0;by_cases hk:k<f.xs[i].es.length
    ·have g2:=Yx f.xs[i].es k hk;have ht:=zcS (x:=f.xs[i]) hk;have hcl:=zqT (n:=n) (l:=qm (f.xs.take i)++VP f.xs[i] (f.xs[i].es.take k));rw[Wj,We,W6]at hcl;have hca:=znk (n:=n) (l:=qm (f.xs.take i)++VP f.xs[i] (f.xs[i].es.take k)) (p:=(f.xs[i].es[k].ino,f.xs[i].ino));have hla:=ziS (n:=n) (l:=qm (f.xs.take i)++VP f.xs[i] (f.xs[i].es.take k)) (p:=(f.xs[i].es[k].ino,f.xs[i].ino));rw[WT,←ht]at hca hla;by_cases hc:f.xs[i].es[k].ino=n
     ·rw[if_pos hc]at hca hla;push_cast [g1,hle,hk,g2,hc]
      repeat refine an ?_
      exact ⟨k+1,hk,by omega,wk (by push_cast [ze,zd,CLe,zf,hca,hla])⟩
     ·rw[if_neg hc]at hca hla;push_cast [g1,hle,hk,g2,hc]
      repeat refine an ?_
      exact ⟨k+1,hk,by omega,wk (by push_cast [ze,zd,CLe,zf,hca,hla])⟩
    ·have hkk:f.xs[i].es.take k=f.xs[i].es:=Wh (by omega);rw[hkk];have ht:=zc1 h;push_cast [g1,hle,hk]
     repeat refine an ?_
     exact ⟨i+1,h,by omega,wk (by push_cast [ze,zd,CLe,zf,ht])⟩
  ·rw[Wh (by omega)];push_cast [hll,h];exact dn
end
end
section
open CA CB
open Go.RowKit
section
variable {G:zp}
theorem GP (f:FsV) (hf:FsS f):Fun Tryz.prog G 165 [.agg (fsC f)] (.sc (.bool (decide (Y5 f)))) 0:=by
 have hll:(zu f.xs).length=f.xs.length:=We ..;have h40:=hf.len;refine fon Tryz.func165 ?_;dsimp only[Tryz.f165];push_cast;refine loop (fun i:Nat=>⟨[(1,.ptr 0 0),(3,.sc (.int .i64 i))],[fsC f],0,0⟩) (fun i=>i<=f.xs.length/\∀ x∈f.xs.take i,Vp f.xs x) (fun i=>f.xs.length-i) 0 ⟨Wc _,fun x hx=>by simp at hx⟩ ?_ ?_
 ·exact wk
 ·rintro i ⟨h1,h2⟩;by_cases h:i<f.xs.length
  ·have g1:=js f.xs i h;have hbad:¬Vp f.xs f.xs[i]->¬Y5 f:=fun hn h'=>hn (h' _ (Wx h));have hdef:Vp f.xs f.xs[i]↔f.xs[i].links=Zt f.xs[i].ino (qm f.xs)/\if f.xs[i].ino=1 then Zt f.xs[i].ino (qm f.xs)=0/\f.xs[i].parent=1 else 1<=Zt f.xs[i].ino (qm f.xs)/\(f.xs[i].kind=2->Zt f.xs[i].ino (qm f.xs)=1/\f.xs[i].parent=Uq f.xs[i].ino (qm f.xs)):=Iff.rfl;push_cast [hll,h,g1]
   repeat refine an ?_
   refine cl (zcz f f.xs[i].ino hf) ?_;push_cast;generalize Zt f.xs[i].ino (qm f.xs)=c at hdef;generalize Uq f.xs[i].ino (qm f.xs)=d at hdef;by_cases c1:f.xs[i].links=(c:Int)
   case neg =>
    have hn:=hbad fun h=>c1 (hdef.1 h).1;push_cast [c1];exact dn (by push_cast [ze,zd,CLe,zf,hn])
   by_cases c2:f.xs[i].ino=1
   ·rw[if_pos c2]at hdef;by_cases c3:(c:Int)=0
    ·by_cases c4:f.xs[i].parent=1
     ·push_cast [c1,c2,c3,c4]
      repeat refine an ?_
      exact ⟨i+1,⟨h,qq h h2 (hdef.2 ⟨c1,by omega,c4⟩)⟩,by omega,wk⟩
     ·have hn:=hbad fun h=>c4 (hdef.1 h).2.2;push_cast [c1,c2,c3,c4];exact dn (by push_cast [ze,zd,CLe,zf,hn])
    ·have hn:=hbad fun h=>by have:=(hdef.1 h).2.1;omega
     push_cast [c1,c2,c3];exact dn (by push_cast [ze,zd,CLe,zf,hn])
   ·rw[if_neg c2]at hdef;by_cases c3:(c:Int)<1
    ·have hn:=hbad fun h=>by have:=(hdef.1 h).2.1;omega
     push_cast [c1,c2,c3];exact dn (by push_cast [ze,zd,CLe,zf,hn])
    by_cases c4:f.xs[i].kind=2
    ·by_cases c5:(c:Int)=1
     ·by_cases c6:f.xs[i].parent=d
      ·push_cast [c1,c2,c3,c4,c5,c6]
       repeat refine an ?_
       exact ⟨i+1,⟨h,qq h h2 (hdef.2 ⟨c1,by omega,fun _=>⟨by omega,c6⟩⟩)⟩,by omega,wk⟩
      ·have hn:=hbad fun h=>c6 ((hdef.1 h).2.2 c4).2;push_cast [c1,c2,c3,c4,c5,c6];exact dn (by push_cast [ze,zd,CLe,zf,hn])
     ·have hn:=hbad fun h=>by have:=((hdef.1 h).2.2 c4).1;omega
      push_cast [c1,c2,c3,c4,c5];exact dn (by push_cast [ze,zd,CLe,zf,hn])
    ·push_cast [c1,c2,c3,c4]
     repeat refine an ?_
     exact ⟨i+1,⟨h,qq h h2 (hdef.2 ⟨c1,by omega,fun h=>absurd h c4⟩)⟩,by omega,wk⟩
  ·rw[Wh (by omega)]at h2;have hn:Y5 f:=h2;push_cast [hll,h];exact dn (by push_cast [ze,zd,CLe,zf,hn])
end
end
section
open CA CB
open Go.RowKit
abbrev zb6 (S:List Int):List (List C):=S.map fun n=>[C.sc (.int .i64 n)]
def YS (S:List Int) (n:Int):List Int:=if n∈S then S else S++[n]
def HA (S:List Int) (es:List z6):List Int:=es.foldl (fun s e=>YS s e.ino) S
def Zn (xs:List zn):Nat->Nat->List Int->List Int
 | 0,_,S=>S
 | m+1,i,S=>match S[i]? with
  | some n=>Zn xs m (i+1) (HA S (zg n xs).es)
  | none=>S
def Q5 (f:FsV):Prop:=(Zn f.xs (f.xs.length+1) 0 [1]).length=f.xs.length
instance (f:FsV):Decidable (Q5 f):=by unfold Q5;infer_instance
theorem UG:∀ {S T:List Int},S.Nodup->(∀ n∈S,n∈T)->S.length<=T.length
 | [],T,_,_=>Wc _
 | a :: r,T,hn,hs=>by
  have ha:=hs a Wk;obtain ⟨h1,h2⟩:=OT.1 hn;have:=UG (S:=r) (T:=T.erase a) h2 fun n hr=>(List.mem_erase_of_ne (fun e=>h1 (by rw[←e];exact hr))).2 (hs n (Wl _ hr));rw[List.length_erase_of_mem ha]at this;have hpos:=WE.2 (List.ne_nil_of_mem ha);rw[Wg];omega
theorem Nt:zk n xs=true↔n∈xs.map (·.ino):=by
 unfold zk;rw[OA,WR];simp
theorem Z4 (hn:S.Nodup) (hs:∀ n∈S,zk n xs=true):S.length<=xs.length:=by
 have:=UG (T:=xs.map (·.ino)) hn fun n h=>Nt.1 (hs n h);rwa [We]at this
theorem MJ (h:S.Nodup):(YS S n).Nodup:=by
 unfold YS;split
 ·exact h
 ·rw[Ah];refine ⟨h,by simp,fun a ha b hb e=>?_⟩;simp at hb;subst hb;subst e;contradiction
theorem Gn {m:Int}:m∈YS S n↔m∈S∨m=n:=by
 unfold YS;split
 ·constructor
  ·exact .inl
  ·rintro (h | h)
   ·exact h
   ·rw[h];assumption
 ·simp
theorem jA (h:zk n xs=true):zg n xs∈xs/\(zg n xs).ino=n:=by
 unfold zk at h;unfold zg X8;cases hq:xs.find? fun x=>x.ino==n with
 | none =>
  rw[Bf]at hq;obtain ⟨x,hx,he⟩:=OA.1 h;exact absurd he (hq x hx)
 | some y =>
  exact ⟨Bj hq,by simpa using List.find?_some hq⟩
theorem zd4 {es:List z6} (h:k<es.length):HA S (es.take (k+1))=YS (HA S (es.take k)) es[k].ino:=by
 unfold HA;rw[W1,Wa h,BC]
 rfl
theorem ziP (es:List z6):∀ (S:List Int),S <+: HA S es:=by
 induction es with
 | nil=>exact fun S=>List.prefix_refl S
 | cons e r ih =>
  intro S;refine List.IsPrefix.trans ?_ (ih (YS S e.ino));unfold YS;split
  ·exact List.prefix_refl S
  ·exact List.prefix_append S _
theorem zjK (S:List Int) (es:List z6):S.length<=(HA S es).length:=(ziP es S).length_le
structure YI (xs:List zn) (S:List Int):Prop where
 nodup:S.Nodup
 has:∀ n∈S,zk n xs=true
theorem YI.len (h:YI xs S):S.length<=xs.length:=Z4 h.nodup h.has
theorem YI.one (h:YI xs S) (hn:zk n xs=true):YI xs (YS S n):=⟨MJ h.nodup,fun m hm=>by
 rcases Gn.1 hm with hm | rfl
 ·exact h.has m hm
 ·exact hn⟩
theorem zeo {j:Nat} (h:j<S.length):((S.take (j+1)).any fun m=>decide (m=n))=(((S.take j).any fun m=>decide (m=n))||decide (S[j]=n)):=by
 rw[W1,Wa h,BL];simp
theorem zmm:(S.any fun m=>decide (m=n))=decide (n∈S):=by
 rw[Bool.eq_iff_iff,OA,decide_eq_true_iff];constructor
 ·rintro ⟨m,hm,h⟩;exact (WQ h)▸hm
 ·exact fun h=>⟨n,h,Wo rfl⟩
theorem zaG (S:List Int) (i:Nat) (h:i<S.length):(zb6 S)[i]?=some [.sc (.int .i64 S[i])]:=by simp[Ws,Wa h]
section
variable {G:zp}
theorem xh (f:FsV) (hf:FsS f) (h3:YL f) (h1:zk 1 f.xs=true):Fun Tryz.prog G 166 [.agg (fsC f)] (.sc (.bool (decide (Q5 f)))) 0:=by
 have hll:(zu f.xs).length=f.xs.length:=We ..;have h40:=hf.len;refine fof (fun i=>if i=5 then J4 9 10 else []) Tryz.func166 ?_;dsimp only[Tryz.f166];push_cast;refine loop (fun p:Nat×List Int=>⟨[(1,.ptr 0 0),(3,.own 0 3 1 (zb6 p.2)),(4,.sc (.int .i64 p.1))],[fsC f],1,0⟩) (fun p=>p.1<=p.2.length/\YI f.xs p.2/\Zn f.xs (f.xs.length+1-p.1) p.1 p.2=Zn f.xs (f.xs.length+1) 0 [1]) (fun p=>f.xs.length+1-p.1) (0,[1]) ⟨Wc _,⟨by simp,fun n hn=>by simp at hn;subst hn;exact h1⟩,rfl⟩ ?_ ?_
 ·exact wks [.inl 0]
 ·rintro ⟨i,S⟩ ⟨k1,k2,k3⟩;dsimp only at k1 k2 k3 ⊢;have hSl:=k2.len;have hli:(zb6 S).length=S.length:=We ..;by_cases h:i<S.length
  ·have g0:=zaG S i h;obtain ⟨hm,hino⟩:=jA (k2.has S[i] (Wx h));push_cast [hli,h,g0]
   repeat refine an ?_
   refine cl (j5 f S[i] (by omega)) ?_;push_cast;rw[show f.xs.length+1-i=(f.xs.length+1-(i+1))+1 by omega,Zn,Wa h]at k3;dsimp only at k3;generalize zg S[i] f.xs=x at hm hino k3;have hx40:=(hf.node x hm).1;have hle:(zQ x.es).length=x.es.length:=We ..;refine loop (fun k:Nat=>⟨[(1,.ptr 0 0),(3,.own 0 3 1 (zb6 (HA S (x.es.take k)))),(4,.sc (.int .i64 i)),(5,.ptr 1 0),(7,.sc (.int .i64 k))],[fsC f,YB x],1,0⟩) (fun k=>k<=x.es.length/\YI f.xs (HA S (x.es.take k))) (fun k=>x.es.length-k) 0 ⟨Wc _,k2⟩ ?_ ?_
   ·exact wks [.inl 0] (by push_cast [ze,zd,CLe,zf,Oy,HA,BV])
   ·rintro k ⟨hk0,k4⟩;by_cases hk:k<x.es.length
    ·have g2:=Yx x.es k hk;have hT:=k4.len;have ht:=zd4 (S:=S) hk;have hhas:zk x.es[k].ino f.xs=true:=h3 x hm _ (Wx hk);have k5:=k4.one hhas;rw[←ht]at k5;generalize hT1:HA S (x.es.take (k+1))=T1 at ht k5;generalize HA S (x.es.take k)=T at k4 hT ht;have hlT:(zb6 T).length=T.length:=We ..;generalize hn:x.es[k].ino=n at g2 ht;push_cast [hle,hk];refine loop (fun j:Nat=>⟨[(1,.ptr 0 0),(3,.own 0 3 1 (zb6 T)),(4,.sc (.int .i64 i)),(5,.ptr 1 0),(7,.sc (.int .i64 k)),(8,.sc (.bool ((T.take j).any fun m=>decide (m=n)))),(9,.sc (.int .i64 j))],[fsC f,YB x],1,0⟩) (fun j=>j<=T.length) (fun j=>T.length-j) 0 (Wc _) ?_ ?_
     ·exact wks [.inl 0] (by push_cast [ze,zd,CLe,zf,Oy,BR])
     ·intro j hj0;by_cases hj:j<T.length
      ·have g3:=zaG T j hj;have ha:=zeo (n:=n) hj;by_cases hq:((T.take j).any fun m=>decide (m=n))=true
       ·rw[hq,BS]at ha;push_cast [hlT,hj,hq]
        repeat refine an ?_
        exact ⟨j+1,hj,by omega,wks [.inl 0] (by push_cast [ze,zd,CLe,zf,ha])⟩
       ·have hq:=Or.2 hq;rw[hq,O4]at ha;push_cast [hlT,hj,hq,g3,g2,hn]
        repeat refine an ?_
        exact ⟨j+1,hj,by omega,wks [.inl 0] (by push_cast [ze,zd,CLe,zf,ha])⟩
      ·have hTj:(T.take j)=T:=Wh (by omega);have hany:=zmm (S:=T) (n:=n);unfold YS at ht;by_cases hin:n∈T
       ·rw[if_pos hin]at ht;rw[Wo hin]at hany;push_cast [hlT,hj,hTj,hany]
        repeat refine an ?_
        exact ⟨k+1,⟨hk,by rw[hT1];exact k5⟩,by omega,wks [.inl 0] (by push_cast [ze,zd,CLe,zf,hT1,ht])⟩
       ·rw[if_neg hin]at ht;rw[Wp hin]at hany;push_cast [hlT,hj,hTj,hany,g2,hn]
        repeat refine an ?_
        exact ⟨k+1,⟨hk,by rw[hT1];exact k5⟩,by omega,wks [.inl 0] (by push_cast [ze,zd,CLe,zf,hT1,ht,W9])⟩
    ·have hkk:x.es.take k=x.es:=Wh (by omega);rw[hkk]at k4;have hge:i+1<=(HA S x.es).length:=WM h (zjK S x.es);push_cast [hle,hk,hkk]
     repeat refine an ?_
     exact ⟨(i+1,HA S x.es),⟨hge,k4,k3⟩,by dsimp only;omega,wks [.inl 0]⟩
  ·push_cast [hli,h];have hfin:Zn f.xs (f.xs.length+1-i) i S=S:=by
    rw[show f.xs.length+1-i=(f.xs.length-i)+1 by omega,Zn,W0 (by omega)]
   rw[hfin]at k3;have hn:Q5 f↔S.length=f.xs.length:=by unfold Q5;rw[←k3]
   exact dn (by push_cast [ze,zd,CLe,zf,hn,hll])
end
end
section
open CA CB
open Go.RowKit
def Xl (es:List z6):Prop:=∀ i (h:i<es.length),may es[i].name=true/\1<=es[i].ino/\(0<i->Op.bytesLess es[i-1].name es[i].name=true)
instance (es:List z6):Decidable (Xl es):=by unfold Xl;infer_instance
def Y4 (x:zn):Prop:=(x.kind=1∨x.kind=2∨x.kind=3)/\(x.kind≠2->x.es = []/\x.parent=0)/\(x.kind=2->x.data = []/\Xl x.es)/\(x.kind=3->1<=x.data.length/\x.data.length<=4095/\∀ b∈x.data,b≠0)
instance (x:zn):Decidable (Y4 x):=by unfold Y4;infer_instance
def YX (f:FsV):Prop:=∀ x∈f.xs,Y4 x
instance (f:FsV):Decidable (YX f):=by unfold YX;infer_instance
def Jx (f:FsV):Int:=if Jv f then if YX f then if YL f then if Y5 f then if Q5 f then if HH f then 0 else 6 else 5 else 4 else 3 else 2 else 1
def okV (f:FsV):Prop:=HE f.xs/\Jx f=0
instance (f:FsV):Decidable (okV f):=by unfold okV;infer_instance
theorem zhj (es:List z6) (hl:es.length<=100000) (hn:∀ e∈es,e.name.length<=1000000):Fun Tryz.prog G0 202 [.sl 2 (zQ es)] (qM (decide (Xl es))) 0:=by
 have hle:(zQ es).length=es.length:=We ..;refine fon Tryz.func202 ?_;dsimp only[Tryz.f202];push_cast;refine loop (fun i:Nat=>⟨[(0,.sl 2 (zQ es)),(3,.sc (.int .i64 i))],[],0,0⟩) (fun i=>i<=es.length/\∀ j (h:j<es.length),j<i->may es[j].name=true/\1<=es[j].ino/\(0<j->Op.bytesLess es[j-1].name es[j].name=true)) (fun i=>es.length-i) 0 ⟨Wc _,fun j h h'=>absurd h' (OK _)⟩ ?_ ?_
 ·exact wk
 ·rintro i ⟨h1,h2⟩;by_cases h:i<es.length
  ·have g1:=Yx es i h;have hm:=Gd es[i].name (by have:=hn _ (Wx h);omega);push_cast [hle,h,g1]
   repeat refine an ?_
   cases c1:may es[i].name with
   | false =>
    have hno:¬Xl es:=fun hr=>by have:=(hr i h).1;rw[c1]at this;cases this
    refine cl hm ?_;push_cast [c1];exact dn (by push_cast [ze,zd,CLe,zf,hno])
   | true =>
    by_cases c2:es[i].ino<1
    ·have hno:¬Xl es:=fun hr=>by have:=(hr i h).2.1;omega
     refine cl hm ?_;push_cast [c1,g1,c2]
     repeat refine an ?_
     exact dn (by push_cast [ze,zd,CLe,zf,hno])
    ·have step:(0<i->Op.bytesLess es[i-1].name es[i].name=true)->∀ j (h:j<es.length),j<i+1->may es[j].name=true/\1<=es[j].ino/\(0<j->Op.bytesLess es[j-1].name es[j].name=true):=fun hb j hj hlt=>by
      rcases Wr j i with q | q
      ·exact h2 j hj q
      ·have:j=i:=by omega
       subst this;exact ⟨c1,by omega,hb⟩
     by_cases c3:0<i
     ·have g2:=Yx es (i-1) (by omega);have e1:(i:Int)-1=((i-1:Nat):Int):=by omega
      cases c4:Op.bytesLess es[i-1].name es[i].name with
      | true =>
       refine cl hm ?_;push_cast [c1,g1,c2]
       repeat refine an ?_
       push_cast [c3,e1,g2,g1,c4]
       repeat refine an ?_
       exact ⟨i+1,⟨h,step fun _=>c4⟩,by omega,wk⟩
      | false =>
       have hno:¬Xl es:=fun hr=>by have:=(hr i h).2.2 c3;rw[c4]at this;cases this
       refine cl hm ?_;push_cast [c1,g1,c2]
       repeat refine an ?_
       push_cast [c3,e1,g2,g1,c4]
       repeat refine an ?_
       exact dn (by push_cast [ze,zd,CLe,zf,hno])
     ·refine cl hm ?_;push_cast [c1,g1,c2]
      repeat refine an ?_
      push_cast [c3]
      repeat refine an ?_
      exact ⟨i+1,⟨h,step fun h=>absurd h c3⟩,by omega,wk⟩
  ·have hr:Xl es:=fun j hj=>h2 j hj (by omega);push_cast [hle,h];exact dn (by push_cast [ze,zd,CLe,zf,hr])
end
section
open CA CB
open Go.RowKit
theorem GN (f:FsV) (hf:FsS f):Fun Tryz.prog G0 163 [.agg (fsC f)] (qM (decide (YX f))) 0:=by
 have hll:(zu f.xs).length=f.xs.length:=We ..;have h40:=hf.len;refine fon Tryz.func163 ?_;dsimp only[Tryz.f163];push_cast;refine loop (fun i:Nat=>⟨[(1,.ptr 0 0),(3,.sc (.int .i64 i))],[fsC f],0,0⟩) (fun i=>i<=f.xs.length/\∀ x∈f.xs.take i,Y4 x) (fun i=>f.xs.length-i) 0 ⟨Wc _,fun x hx=>by simp at hx⟩ ?_ ?_
 ·exact wk
 ·rintro i ⟨h1,h2⟩;by_cases h:i<f.xs.length
  case neg =>
   rw[Wh (by omega)]at h2;have hn:YX f:=h2;push_cast [hll,h];exact dn (by push_cast [ze,zd,CLe,zf,hn])
  have g1:=js f.xs i h;have hbad:¬Y4 f.xs[i]->¬YX f:=fun hn h'=>hn (h' _ (Wx h));have hs:=hf.node _ (Wx h);have step:Y4 f.xs[i]->∀ x∈f.xs.take (i+1),Y4 x:=fun hq=>qq h h2 hq;push_cast [hll,h,g1]
  repeat refine an ?_
  generalize f.xs[i]=x at g1 hbad hs step;have hle:(zQ x.es).length=x.es.length:=We ..;have hent:x.es.length<=10000:=hs.1;by_cases k2:x.kind=2
  ·by_cases d0:x.data = []
   ·have hr:=zhj x.es (by omega) fun e he=>by have:=hs.2.2 e he;omega
    cases c1:decide (Xl x.es) with
    | false =>
     have hn:=hbad fun hq=>OP c1 (hq.2.2.1 k2).2;push_cast [k2,d0];refine cl hr ?_;push_cast [c1];exact dn (by push_cast [ze,zd,CLe,zf,hn])
    | true =>
     have hq:Y4 x:=⟨.inr (.inl k2),fun h=>absurd k2 h,fun _=>⟨d0,WQ c1⟩,fun h=>by omega⟩;push_cast [k2,d0];refine cl hr ?_;push_cast [c1,k2];refine loop (fun j:Nat=>⟨[(1,.ptr 0 0),(3,.sc (.int .i64 i)),(4,.ptr 1 0),(5,.sc (.int .i64 j))],[fsC f,YB x],0,0⟩) (fun j=>j=0) (fun j=>0) 0 rfl ?_ ?_
     ·exact wk (by push_cast [ze,zd,CLe,zf,k2,d0]) (by push_cast [ze,zd,CLe,zf,k2,d0])
     ·rintro j rfl;push_cast [d0]
      repeat refine an ?_
      exact ⟨i+1,⟨h,step hq⟩,by omega,wk⟩
   ·have hn:=hbad fun hq=>d0 (hq.2.2.1 k2).1;push_cast [k2,d0];exact dn (by push_cast [ze,zd,CLe,zf,hn])
  by_cases e0:x.es = []
  case neg =>
   have hn:=hbad fun hq=>e0 (hq.2.1 k2).1;have hpos:0<(x.es.length:Int):=by have:=WE.2 e0;omega
   by_cases k1:x.kind=1
   ·push_cast [k1,hle,hpos];exact dn (by push_cast [ze,zd,CLe,zf,hn])
   ·by_cases k3:x.kind=3
    ·push_cast [k1,k2,k3,hle,hpos];exact dn (by push_cast [ze,zd,CLe,zf,hn])
    ·have hn:=hbad fun hq=>by rcases hq.1 with q | q | q<;>contradiction
     push_cast [k1,k2,k3];exact dn (by push_cast [ze,zd,CLe,zf,hn])
  have hl0:x.es.length=0:=by rw[e0];rfl
  by_cases p0:x.parent=0
  case neg =>
   have hn:=hbad fun hq=>p0 (hq.2.1 k2).2;by_cases k1:x.kind=1
   ·push_cast [k1,hle,hl0,p0];exact dn (by push_cast [ze,zd,CLe,zf,hn])
   ·by_cases k3:x.kind=3
    ·push_cast [k1,k2,k3,hle,hl0,p0];exact dn (by push_cast [ze,zd,CLe,zf,hn])
    ·have hn:=hbad fun hq=>by rcases hq.1 with q | q | q<;>contradiction
     push_cast [k1,k2,k3];exact dn (by push_cast [ze,zd,CLe,zf,hn])
  by_cases k1:x.kind=1
  ·have hq:Y4 x:=⟨.inl k1,fun _=>⟨e0,p0⟩,fun h=>absurd h k2,fun h=>by omega⟩;push_cast [k1,hle,hl0,p0];refine loop (fun j:Nat=>⟨[(1,.ptr 0 0),(3,.sc (.int .i64 i)),(4,.ptr 1 0),(5,.sc (.int .i64 j))],[fsC f,YB x],0,0⟩) (fun j=>j=0) (fun j=>0) 0 rfl ?_ ?_
   ·exact wk (by push_cast [ze,zd,CLe,zf,k1,p0]) (by push_cast [ze,zd,CLe,zf,k1,p0])
   ·rintro j rfl;by_cases hd:(0:Int)<x.data.length
    ·push_cast [hd,k1]
     repeat refine an ?_
     exact ⟨i+1,⟨h,step hq⟩,by omega,wk⟩
    ·push_cast [hd,k1]
     repeat refine an ?_
     exact ⟨i+1,⟨h,step hq⟩,by omega,wk⟩
  by_cases k3:x.kind=3
  case neg =>
   have hn:=hbad fun hq=>by rcases hq.1 with q | q | q<;>contradiction
   push_cast [k1,k2,k3];exact dn (by push_cast [ze,zd,CLe,zf,hn])
  by_cases l1:(x.data.length:Int)<1
  ·have hn:=hbad fun hq=>by have:=(hq.2.2.2 k3).1;omega
   push_cast [k1,k2,k3,hle,hl0,p0,l1];exact dn (by push_cast [ze,zd,CLe,zf,hn])
  by_cases l2:4095<(x.data.length:Int)
  ·have hn:=hbad fun hq=>by have:=(hq.2.2.2 k3).2.1;omega
   push_cast [k1,k2,k3,hle,hl0,p0,l1,l2];exact dn (by push_cast [ze,zd,CLe,zf,hn])
  push_cast [k1,k2,k3,hle,hl0,p0,l1,l2];refine loop (fun j:Nat=>⟨[(1,.ptr 0 0),(3,.sc (.int .i64 i)),(4,.ptr 1 0),(5,.sc (.int .i64 j))],[fsC f,YB x],0,0⟩) (fun j=>j<=x.data.length/\∀ b∈x.data.take j,b≠0) (fun j=>x.data.length-j) 0 ⟨Wc _,fun b hb=>by simp at hb⟩ ?_ ?_
  ·exact wk (by push_cast [ze,zd,CLe,zf,k3,p0]) (by push_cast [ze,zd,CLe,zf,k3,p0])
  ·rintro j ⟨j1,j2⟩;by_cases hj:j<x.data.length
   ·have hb:x.data[j]?=some x.data[j]:=Wa hj;by_cases z:(x.data[j].toNat:Int)=0
    ·have hn:=hbad fun hq=>(hq.2.2.2 k3).2.2 _ (Wx hj) (Ap.1 (by simpa using z));push_cast [hj,k3,hb,z]
     repeat refine an ?_
     exact dn (by push_cast [ze,zd,CLe,zf,hn])
    ·push_cast [hj,k3,hb,z]
     repeat refine an ?_
     exact ⟨j+1,⟨hj,qq hj j2 fun hz=>z (by rw[hz];rfl)⟩,by omega,wk⟩
   ·rw[Wh (by omega)]at j2;have hq:Y4 x:=⟨.inr (.inr k3),fun _=>⟨e0,p0⟩,fun h=>absurd h k2,fun _=>⟨by omega,by omega,j2⟩⟩;push_cast [hj,k3]
    repeat refine an ?_
    exact ⟨i+1,⟨h,step hq⟩,by omega,wk⟩
theorem zeE (f:FsV) (hf:FsS f):Fun Tryz.prog G0 115 [.agg (fsC f)] (.sc (.int .i64 (Jx f))) 0:=by
 have h40:=hf.len;have hb:qe f.xs<=100000000:=by have:=hf.bytes;omega
 refine fon Tryz.func115 ?_;dsimp only[Tryz.f115];push_cast;by_cases c1:Jv f
 case neg =>
  refine cl (yr f (by omega)) ?_;push_cast [Wp c1];exact dn (by push_cast [ze,zd,CLe,zf,Jx,c1])
 refine cl (yr f (by omega)) ?_;push_cast [Wo c1];by_cases c2:YX f
 case neg =>
  refine cl (GN f hf) ?_;push_cast [Wp c2];exact dn (by push_cast [ze,zd,CLe,zf,Jx,c1,c2])
 refine cl (GN f hf) ?_;push_cast [Wo c2];by_cases c3:YL f
 case neg =>
  refine cl (xG f hf) ?_;push_cast [Wp c3];exact dn (by push_cast [ze,zd,CLe,zf,Jx,c1,c2,c3])
 refine cl (xG f hf) ?_;push_cast [Wo c3];by_cases c4:Y5 f
 case neg =>
  refine cl (GP f hf) ?_;push_cast [Wp c4];exact dn (by push_cast [ze,zd,CLe,zf,Jx,c1,c2,c3,c4])
 refine cl (GP f hf) ?_;push_cast [Wo c4];by_cases c5:Q5 f
 case neg =>
  refine cl (xh f hf c3 c1.2.2.2.2.2.2.2.1) ?_;push_cast [Wp c5];exact dn (by push_cast [ze,zd,CLe,zf,Jx,c1,c2,c3,c4,c5])
 refine cl (xh f hf c3 c1.2.2.2.2.2.2.2.1) ?_;push_cast [Wo c5];by_cases c6:HH f
 case neg =>
  refine cl (zav f hf hb) ?_;push_cast [Wp c6];exact dn (by push_cast [ze,zd,CLe,zf,Jx,c1,c2,c3,c4,c5,c6])
 refine cl (zav f hf hb) ?_;push_cast [Wo c6];exact dn (by push_cast [ze,zd,CLe,zf,Jx,c1,c2,c3,c4,c5,c6])
end
end Go.Proofs.YtaipngaejfndgaaGreatDoor.Vcg
