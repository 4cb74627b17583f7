/- What the proof of LnsStays leans on, part 4: Path1 Path2 Path3 Path4 May1 May2 May3 Path5 Ref3 PathLaw Open Laid Op1 QuotePlain QuotePlain2 QuotePlain3 OpV Op2 Wld0 Ent1 Ent2 EntW TabW Wld1 Wld2 Wld3 Wld4 Wld5 Room Plc Crt Drp Mov SlcK Sts OpenW StW Sts2 StX Kep Stp Stp2 Stp3 Stp4 Deed Doo Dra1 Dra2 Rf4 Rf5 Rf6 Rf7 Op3 Op4 Op5 Ref19 Rf8 Snd2 Snd3 Snd4 Snd5 Snd6 Snd7 Rf9. No condition beyond what each theorem states. -/
import Derived.Test.YtaipngaejfndgaaGreatDoorLnsStaysKc
import Derived.Laws.Runes
import Derived.Laws.RangeString
import Derived.WalkKit
import Derived.Deep.LoopGhost
import Derived.Lib.QuoteLoop
import Derived.Lib.IndexAny
import Derived.ProofKit
import Derived.Deep.Slices
import Derived.Deep.Fields
import Derived.ChangeSame
import Derived.ChangeOld
import Derived.Lib.SmallJoins
import Derived.Lib.LaidU8
import Derived.OpenShut
import Derived.FnData
import Derived.Lib.Bytealg
set_option linter.unusedVariables false
set_option linter.unusedSimpArgs false
set_option linter.unusedSectionVars false
set_option maxRecDepth 100000
set_option maxHeartbeats 4000000
namespace Go.Proofs.YtaipngaejfndgaaGreatDoor.Vcg
variable {P:Program} {G:zo} {f:FsV} {args:List C} {r:C} {xs:List zm} {k N:Nat} {W:World} {l:List (Int×Int)} {x:zm} {n i:Int} {α:Type} {S:List Int}
section
open Go.RowKit
theorem Fun.wrap {f:FuncId} (he:YL P f=true)
  (h:∀ (R:Env) (vs:List Value),zw R zJ args vs->Calls P f vs.toArray R.w fun e w'=>∃ v,e = .returned v/\Below R.w.heap.size R.w w'/\∀ R',Ext R R'->Rep R' zJ r v):Fun P G f args r 0:=by
 refine ⟨he,fun R vs hg ha=>(h R vs ha).mono ?_⟩;rintro e w' ⟨v,rfl,hb,hr⟩;have st:qq 0 0 R zJ ⟨w',fun b o=>b<R.w.heap.size/\R.M b o,R.F⟩ zJ:=qq.mem (nx:=0) hb;exact ⟨v,_,zJ,rfl,rfl,st,hr _ st.ext⟩
def Jj:Lz->List Lz
 | []=>[[]]
 | b :: l=>if b=47 then [] :: Jj l else match Jj l with
  | []=>[[b]]
  | x :: r=>(b :: x) :: r
theorem x7 (l:Lz):Jj l≠[]:=by
 cases l with
 | nil=>simp[Jj]
 | cons b l =>
  unfold Jj;split
  ·simp
  ·split<;>simp
theorem GO:∀ l:Lz,Lib.indexByte l 47<0->Jj l = [l]
 | [],_=>rfl
 | b :: l,h=>by
  unfold Lib.indexByte at h;by_cases hb:b=47
  ·subst hb;simp at h
  ·have hb':(b==47)=false:=by simpa using hb
   rw[hb']at h;simp only[WO,W4]at h;have hl:Lib.indexByte l 47<0:=by
    split at h
    ·rename_i g;have:=Og.1 g;omega
    ·omega
   unfold Jj;rw[if_neg hb,GO l hl]
theorem GG:∀ l:Lz,-1<=Lib.indexByte l 47
 | []=>Ai _
 | b :: l=>by
  have:=GG l;unfold Lib.indexByte;split
  ·decide
  ·split
   ·decide
   ·omega
theorem zaq:∀ (l:Lz) (i:Nat),Lib.indexByte l 47=(i:Int)->i<l.length/\Jj l=l.take i :: Jj (l.drop (i+1))
 | [],i,h=>by
  have h:(-1:Int)=(i:Int):=h;omega
 | b :: l,i,h=>by
  unfold Lib.indexByte at h;by_cases hb:b=47
  ·subst hb;simp at h;obtain rfl:i=0:=by omega
   refine ⟨by simp,?_⟩
   conv=>lhs;unfold Jj
   simp
  ·have hb':(b==47)=false:=by simpa using hb
   rw[hb']at h;simp only[WO,W4]at h;split at h
   ·omega
   ·rename_i g;have g':Lib.indexByte l 47≠-1:=by simpa using g
    have hg:=GG l;obtain ⟨j,rfl⟩:∃ j,i=j+1:=⟨i-1,by omega⟩;have hj:Lib.indexByte l 47=(j:Int):=by omega
    obtain ⟨h1,h2⟩:=zaq l j hj;refine ⟨by simp;omega,?_⟩
    conv=>lhs;unfold Jj
    rw[if_neg hb,h2];simp
theorem kT:∀ (l:Lz) (a:List Lz) (cur:Lz),zk9 (l.foldl Vz (a,cur))=a++(match Jj l with | []=>[] | x :: r=>(cur++x) :: r).filter (fun x=>!decide (x = []))
 | [],a,cur=>by
  simp only[BT,zk9,Jj];by_cases h:cur = []<;>simp[h]
 | b :: l,a,cur=>by
  simp only[Bm];by_cases hb:b=47
  ·subst hb;have hn:Vz (a,cur) 47=(if cur = [] then a else a++[cur],[]):=by simp[Vz]
   rw[hn,kT l]
   conv=>rhs;unfold Jj
   simp only[if_true];have hne:=x7 l;cases hs:Jj l with
   | nil=>exact absurd hs hne
   | cons x r=>by_cases h:cur = []<;>simp[h]
  ·have hn:Vz (a,cur) b=(a,cur++[b]):=by simp[Vz,hb]
   rw[hn,kT l]
   conv=>rhs;unfold Jj
   rw[if_neg hb];have hne:=x7 l;cases hs:Jj l with
   | nil=>exact absurd hs hne
   | cons x r=>simp
theorem Yl (l:Lz):zF l=(Jj l).filter (fun x=>!decide (x = [])):=by
 unfold zF;rw[kT];cases hs:Jj l with
 | nil=>rfl
 | cons x r=>simp
theorem zfQ (l:Lz):Fun Tryz.prog G0 177 [.str l,.str [47]] (.sc (.int .i64 (Lib.indexByte l 47))) 0:=by
 refine Fun.wrap (by kernel_rfl) fun R vs h=>?_;obtain ⟨v1,us1,rfl,h1,h⟩:=zf.1 h;obtain ⟨v2,us2,rfl,h2,h⟩:=zf.1 h;rw[zk]at h;subst h;rw[zU]at h1 h2;subst h1 h2;refine (Tryz.strings_Index_one ⟨l.toArray⟩ 47 R.w).mono ?_;rintro e w' ⟨rfl,rfl⟩;exact ⟨_,rfl,W1 _ _,fun R' _=>zp.2 (by simp)⟩
theorem Hv (s:Lz) (hs:s.length<=1000000):yg Tryz.prog G0 208 [] [.ptr 1 0,.ptr 0 0,.ptr 2 0] [[.str s],[.str [47]],[.sc (.int .i64 0)]] (zL (Jj s)):=by
 refine foI (fun _=>[]) Tryz.func208 ?_;dsimp only[Tryz.f208];intro l sf;push_cast;refine loop (fun x:Lz×Nat=>⟨[(0,.sc (.func (.yield l) #[] #[])),(1,.ptr 1 0),(2,.ptr 0 0),(3,.ptr 2 0)],[[.str x.1],[.str [47]],[.sc (.int .i64 0)]],0,x.2⟩)
  (fun x=>x.1.length<=1000000/\(∃ done,Jj s=done++Jj x.1/\done.length=x.2)/\∀ j,j<x.2->sf j=false) (fun x=>x.1.length) (s,0) ⟨hs,⟨[],rfl,rfl⟩,fun j hj=>by omega⟩ ?_ ?_
 ·refine JF.mk [] rfl rfl (Wc _) rfl ?_ ?_<;>push_cast [ze,zd,CLe,zh]<;>omega
 ·rintro ⟨r,k⟩ hx;simp only at hx ⊢;have hr:=hx.1;have hsf:=hx.2.2;obtain ⟨done,hd,hdl⟩:=hx.2.1;clear hx;push_cast;refine call (zfQ r) ?_;push_cast;by_cases hi:Lib.indexByte r 47<0
  ·push_cast [hi];have hk:(zL (Jj s))[k]?=some [.str r]:=by
    rw[hd,GO r hi];simp[←hdl]
   rw[hk];push_cast;refine ⟨by push_cast [ze,zd,CLe,zh],hsf,?_⟩;cases hk2:sf k with
   | true=>exact .inr ⟨A1 k,hk2⟩
   | false =>
    refine .inl ⟨?_,fun j (hj:j<k+1)=>?_⟩
    ·rw[hd,GO r hi];simp[hdl]
    ·rcases Wr j k with g | g
     ·exact hsf j g
     ·rw[show j=k by omega];exact hk2
  ·have hg:=GG r;obtain ⟨i,hii⟩:∃ i:Nat,Lib.indexByte r 47=(i:Int):=⟨(Lib.indexByte r 47).toNat,by omega⟩;obtain ⟨hir,hsp⟩:=zaq r i hii;have hk:(zL (Jj s))[k]?=some [.str (r.take i)]:=by
    rw[hd,hsp];simp[←hdl]
   rw[hii]at hi ⊢;push_cast [hi];rw[hk];push_cast;refine ⟨by omega,by omega,by push_cast [ze,zd,CLe,zh],hsf,br (fun hk2=>?_) (fun hk2=>?_)⟩
   ·push_cast;exact .inr ⟨A1 k,hk2⟩
   ·push_cast;refine ⟨by omega,by omega,(r.drop (i+1),k+1),⟨by simp;omega,⟨done++[r.take i],by rw[hd,hsp];simp,by simp[hdl]⟩,fun j (hj:j<k+1)=>?_⟩,by simp;omega,JF.mk [] rfl rfl (Wc _) rfl ?_ ?_⟩
    ·rcases Wr j k with g | g
     ·exact hsf j g
     ·rw[show j=k by omega];exact hk2
    ·push_cast [ze,zd,CLe,zh]
    ·push_cast [ze,zd,CLe,zh]
theorem M8 (s:Lz):xh Tryz.prog G0 169 [.str s,.str [47],.sc (.int .i64 0)] [] 0 (.clo (.func 208) [] [.ptr 1 0,.ptr 0 0,.ptr 2 0]) [[.str s],[.str [47]],[.sc (.int .i64 0)]] 0:=by
 refine foB (fun _=>[]) Tryz.func169 ?_;dsimp only[Tryz.f169];push_cast;exact ⟨[],rfl,rfl,by push_cast [ze,zd,CLe,zh],by push_cast [ze,zd,CLe,zh]⟩
theorem ya (s:Lz):xh Tryz.prog G0 127 [.str s,.str [47]] [] 0 (.clo (.func 208) [] [.ptr 1 0,.ptr 0 0,.ptr 2 0]) [[.str s],[.str [47]],[.sc (.int .i64 0)]] 0:=by
 refine foB (fun _=>[]) Tryz.func127 ?_;dsimp only[Tryz.f127];push_cast;refine Xc [] [] (M8 s) rfl (by simp) (by simp) (fun i hi=>by cases hi) (by push_cast) rfl ?_;push_cast;exact ⟨[],rfl,rfl,by push_cast [ze,zd,CLe,zh],by push_cast [ze,zd,CLe,zh]⟩
end
section
open Go.RowKit
abbrev HY (x:Lz):Bool:=!decide (x = [])
def cnt (xs:List Lz) (k:Nat):Nat:=((xs.take k).filter HY).length
theorem zaD (xs:List Lz) (k:Nat) (x:Lz) (h:xs[k]?=some x):cnt xs (k+1)=if x = [] then cnt xs k else cnt xs k+1:=by
 unfold cnt;rw[WX,h];by_cases hx:x = []<;>simp[hx]
theorem znl (xs:List Lz) (k:Nat) (x:Lz) (h:xs[k]?=some x) (hx:x≠[]):(xs.filter HY)[cnt xs k]?=some x:=by
 have hk:k<xs.length:=(Wd.1 h).1;have e:xs=xs.take k++x :: xs.drop (k+1):=by
  have:=Ol k xs;rw[Ou hk]at this;rw[Wa hk]at h;cases h;exact this.symm
 have e2:xs.filter HY=(xs.take k).filter HY++x :: (xs.drop (k+1)).filter HY:=by
  conv=>lhs;rw[e]
  rw[OS,O6];simp[hx]
 rw[e2];unfold cnt;simp
theorem znw (xs:List Lz):cnt xs xs.length=(xs.filter HY).length:=by unfold cnt;rw[Oe]
theorem Vu {xs:List Lz} {sf:Nat->Bool}:∀ k,k<=xs.length->(∀ j,j<k->(HY (xs.getD j [])&&sf (cnt xs j))=false)->∀ j,j<cnt xs k->sf j=false
 | 0,_,_,j,hj=>by simp[cnt]at hj
 | k+1,hk,h,j,hj=>by
  have ih:=Vu k (by omega) fun i hi=>h i (by omega);have hx:xs[k]?=some (xs.getD k []):=by rw[W6,Wa (by omega)];rfl
  rw[zaD xs k _ hx]at hj;by_cases he:xs.getD k [] = []
  ·rw[if_pos he]at hj;exact ih j hj
  ·rw[if_neg he]at hj;rcases Wr j (cnt xs k) with g | g
   ·exact ih j g
   ·have h2:=h k (by omega);have h3:HY (xs.getD k [])=true:=by simp only[HY,An,Or];exact he
    rw[h3,OA]at h2;rw[show j=cnt xs k by omega];exact h2
theorem QB {xs:List Lz} {it:List C} (h:(zL xs)[k]?=some it):∃ x,xs[k]?=some x/\it = [.str x]:=by
 rw[Ww]at h;cases hq:xs[k]? with
 | none=>rw[hq]at h;cases h
 | some x=>rw[hq]at h;cases h;exact ⟨x,rfl,rfl⟩
theorem Xk (p:Lz) (hs:p.length<=1000000):yg Tryz.prog G0 145 [] [.row [.str p]] [] (zL (zF p)):=by
 rw[Yl];refine foI (fun _=>[]) Tryz.func145 ?_;dsimp only[Tryz.f145];intro l sf;push_cast;refine Xc [] [] (ya p) rfl (by simp) (by simp) (fun i hi=>by cases hi) (by push_cast) rfl ?_;push_cast;refine range (zL (Jj p)) (fun k=>HY ((Jj p).getD k [])&&sf (cnt (Jj p) k)) 1 (fun k=>⟨[],[[.sc (.func (.yield l) #[] #[])]],0,cnt (Jj p) k⟩) (Hv p hs) (by push_cast) (by push_cast) (by push_cast) (Wc _) (by push_cast) (fun it hit=>?_) (fun k _=>rfl) ?_ (fun k it hk hsf=>?_) (fun hsf=>?_)
 ·obtain ⟨x,_,rfl⟩:=WT.1 hit;rfl
 ·exact wk
 ·obtain ⟨x,hx,rfl⟩:=QB hk;have hxd:(Jj p).getD k []=x:=by rw[W6,hx];rfl
  have hkl:k<(Jj p).length:=(Wd.1 hx).1;have hcs:=zaD (Jj p) k x hx;have hbef:=Vu (xs:=Jj p) (sf:=sf) k (by omega) hsf;by_cases he:x = []
  ·push_cast [he];refine ⟨?_,JF.mk [] rfl rfl (Wb _) ?_ (by push_cast [ze,zd,CLe,zh]) (by push_cast [ze,zd,CLe,zh])⟩
   ·rw[hxd,he];rfl
   ·simp[hcs,he,St.wt]
  ·have hget:=znl (Jj p) k x hx he;have hg2:(zL ((Jj p).filter HY))[cnt (Jj p) k]?=some [.str x]:=by rw[Ww,hget];rfl
   push_cast [he];rw[hg2];push_cast;refine ⟨by push_cast [ze,zd,CLe,zh],hbef,br (fun h2=>?_) (fun h2=>?_)⟩
   ·push_cast;refine ⟨by rw[hxd,h2];simp[HY,he],⟨[],[[.sc (.func (.yield l) #[] #[])]],0,cnt (Jj p) k+1⟩,rfl,wk,?_⟩;push_cast;exact .inr ⟨A1 _,h2⟩
   ·push_cast;refine ⟨by rw[h2,Aj],JF.mk [] rfl rfl (Wb _) ?_ (by push_cast [ze,zd,CLe,zh]) (by push_cast [ze,zd,CLe,zh])⟩;simp[hcs,he,St.wt]
 ·have hall:=znw (Jj p);have hbef:=Vu (xs:=Jj p) (sf:=sf) (Jj p).length (Wb _) fun j hj=>hsf j (by simpa using hj);push_cast;refine .inl ⟨?_,?_⟩
  ·simp[hall]
  ·simpa using hbef
end
section
open Go.RowKit
theorem J4 (p:Lz):Fun Tryz.prog G0 99 [.str p] (.clo (.func 145) [] [.row [.str p]]) 0:=by
 refine fon Tryz.func99 ?_;dsimp only[Tryz.f99];push_cast;exact dn
theorem GV (xs:List Lz) (f:FuncId) (cap:List C) (hsel:C.selL (Xb 1) cap=cap) (hit:yg Tryz.prog G0 f [] cap [] (zL xs)) (hx:xs.length<=1000001):Fun Tryz.prog G0 181 [.sc (.slice none 0 0),.clo (.func f) [] cap] (.own 0 9 1 (zL xs)) 1:=by
 refine fon Tryz.func181 ?_;dsimp only[Tryz.f181];push_cast;refine range (zL xs) (fun _=>false) 1 (fun k=>⟨[],[[.own 0 9 1 (zL (xs.take k))]],1,0⟩) hit (by push_cast) hsel (by push_cast) (Wc _) (by push_cast) (fun it h=>?_) (fun k _=>rfl) ?_ (fun k it hk hsf=>?_) (fun hsf=>?_)
 ·obtain ⟨x,_,rfl⟩:=WT.1 h;rfl
 ·exact wks [.inr (9,1)]
 ·obtain ⟨x,hx2,rfl⟩:=QB hk;have hkl:k<xs.length:=(Wd.1 hx2).1;push_cast;simp only[W5];refine ⟨by omega,by omega,JF.mk [.inl 0] rfl rfl (Wb _) rfl (by push_cast [ze,zd,CLe,zh]) ?_⟩;push_cast [ze,zd,CLe,zh];rw[WX,hx2]
  rfl
 ·push_cast;refine ⟨[.inl 0],rfl,rfl,?_⟩;push_cast [ze,zd,CLe,zh];simp
theorem vf (xs:List Lz) (f:FuncId) (cap:List C) (hsel:C.selL (Xb 1) cap=cap) (hfrz:C.frzL cap=cap) (hit:yg Tryz.prog G0 f [] cap [] (zL xs)) (hx:xs.length<=1000001):Fun Tryz.prog G0 157 [.clo (.func f) [] cap] (.own 0 9 1 (zL xs)) 1:=by
 refine fon Tryz.func157 ?_;dsimp only[Tryz.f157];push_cast [hfrz];refine call (GV xs f cap hsel hit hx) ?_;push_cast;exact ⟨[.inl 0],rfl,rfl,by push_cast [ze,zd,CLe,zh]⟩
theorem Qj (p:Lz) (hp:p.length<=1000000):Fun Tryz.prog G0 157 [.clo (.func 145) [] [.row [.str p]]] (.own 0 9 1 (zL (zF p))) 1:=
 vf (zF p) _ _ (by push_cast) (by push_cast) (Xk p hp) (by have:=jB p;omega)
theorem Xz (s p:Lz):Fun Tryz.prog G0 98 [.str s,.str p] (.sc (.bool (Lib.hasPrefix s p))) 0:=by
 refine Fun.wrap (by kernel_rfl) fun R vs h=>?_;obtain ⟨v1,us1,rfl,h1,h⟩:=zf.1 h;obtain ⟨v2,us2,rfl,h2,h⟩:=zf.1 h;rw[zk]at h;subst h;rw[zU]at h1 h2;subst h1 h2;refine (Tryz.strings_HasPrefix ⟨s.toArray⟩ ⟨p.toArray⟩ R.w).mono ?_;rintro e w' ⟨rfl,rfl⟩;exact ⟨_,rfl,W1 _ _,fun R' _=>zp.2 (by simp)⟩
theorem Zr (s p:Lz) (hs:s.length<=1000000):Fun Tryz.prog G0 100 [.str s,.str p] (.sc (.bool (Lib.hasSuffix s p))) 0:=by
 refine Fun.wrap (by kernel_rfl) fun R vs h=>?_;obtain ⟨v1,us1,rfl,h1,h⟩:=zf.1 h;obtain ⟨v2,us2,rfl,h2,h⟩:=zf.1 h;rw[zk]at h;subst h;rw[zU]at h1 h2;subst h1 h2;refine (Tryz.strings_HasSuffix ⟨s.toArray⟩ ⟨p.toArray⟩ R.w (by simp[ByteArray.size];omega)).mono ?_;rintro e w' ⟨rfl,rfl⟩;exact ⟨_,rfl,W1 _ _,fun R' _=>zp.2 (by simp)⟩
theorem Nb (xs:List Lz) (sep:Lz) (hx:xs.length<=1000001) (hl:(Lib.join xs sep).length<=100000000):Fun Tryz.prog G0 130 [.sl 1 (zL xs),.str sep] (.str (Lib.join xs sep)) 0:=by
 refine Fun.wrap (by kernel_rfl) fun R vs h=>?_;obtain ⟨v1,us1,rfl,h1,h⟩:=zf.1 h;obtain ⟨v2,us2,rfl,h2,h⟩:=zf.1 h;rw[zk]at h;subst h;rw[zU]at h2;subst h2;obtain ⟨a,cap,rfl,hc1,hc2,hr⟩:=HJ.1 h1;have hlen:(zL xs).length=xs.length:=by simp
 have hmap:(xs.map fun x=>ByteArray.mk x.toArray).map (·.data.toList)=xs:=by
  rw[List.map_map]
  conv=>rhs;rw[←List.map_id xs]
  exact A7 fun x _=>by simp
 rcases hr with hr | ⟨b,o,rfl,hr⟩
 ·have:xs = []:=by simpa using hr
  subst this;refine (Tryz.strings_Join_none a cap ⟨sep.toArray⟩ R.w).mono ?_;rintro e w' ⟨rfl,rfl⟩;exact ⟨_,rfl,W1 _ _,fun R' _=>zU.2 (by simp[Lib.join])⟩
 ·by_cases hx0:xs = []
  ·subst hx0;refine (Tryz.strings_Join_none _ cap ⟨sep.toArray⟩ R.w).mono ?_;rintro e w' ⟨rfl,rfl⟩;exact ⟨_,rfl,W1 _ _,fun R' _=>zU.2 (by simp[Lib.join])⟩
  ·have hcells:∀ (j:Nat) x,(xs.map fun x=>ByteArray.mk x.toArray)[j]?=some x->R.w.cell? ⟨b,o+j,none⟩=some (.string x):=fun j x hj=>by
    rw[Ww]at hj;cases hq:xs[j]? with
    | none=>rw[hq]at hj;cases hj
    | some y =>
     rw[hq]at hj;cases hj;obtain ⟨_,g⟩:=jr hr j [.str y] (by rw[Ww,hq];rfl);obtain ⟨⟨v,g1,_,g2,_⟩,_⟩:=ql.1 g;rw[zU]at g2;subst g2;simpa using g1
   have hb:b<R.w.heap.size:=by
    cases xs with
    | nil=>exact absurd rfl hx0
    | cons x r =>
     exact yN (hcells 0 ⟨x.toArray⟩ rfl)
   have hj:=Tryz.strings_Join b o cap (xs.map fun x=>ByteArray.mk x.toArray) ⟨sep.toArray⟩ R.w hcells hb (by simp;omega) (by simpa using hc1) (by rw[hmap];simp;omega);rw[hmap]at hj;simp only[We]at hj;rw[hlen];refine hj.mono ?_;rintro e w' ⟨rfl,hbl⟩;exact ⟨_,rfl,hbl,fun R' _=>zU.2 (by simp)⟩
end
section
open Go.RowKit
def ziO (p:Lz):C:=.agg [qQ (Lib.hasPrefix p [47]),.own 0 9 1 (zL (zF p)),qQ (!decide (zF p = [])&&Lib.hasSuffix p [47])]
theorem Uo (p:Lz) (hp:p.length<=1000000):Fun Tryz.prog G0 107 [.str p] (ziO p) 1:=by
 refine fon Tryz.func107 ?_;dsimp only[Tryz.f107];push_cast;refine call (J4 p) ?_;push_cast;refine call (Qj p hp) ?_;push_cast;refine call (Xz p [47]) ?_;push_cast;by_cases h:zF p = []
 ·push_cast [h];exact ⟨[.inl 0],rfl,rfl,by simp only[ziO];push_cast [ze,zd,CLe,zh,h];simp⟩
 ·have h':0<(zF p).length:=WK.2 h;push_cast [h'];refine call (Zr p [47] hp) ?_;push_cast;exact ⟨[.inl 0],rfl,rfl,by simp only[ziO];push_cast [ze,zd,CLe,zh,h]⟩
def put (a:Bool) (xs:List Lz) (s:Bool):Lz:=(if a then [47] else [])++Lib.join xs [47]++(if s&&!decide (xs = []) then [47] else [])
def qM (xs:List Lz):Lz:=if xs = [] then [47] else 47 :: Lib.join xs [47]
theorem Qa (xs:List Lz) (hx:xs.length<=1000001) (hl:(Lib.join xs [47]).length<=100000000):Fun Tryz.prog G0 109 [.sl 1 (zL xs)] (.str (qM xs)) 0:=by
 refine fon Tryz.func109 ?_;dsimp only[Tryz.f109];push_cast;by_cases h:xs = []
 ·push_cast [h];exact ⟨[],rfl,rfl,by simp only[qM,h];push_cast [ze,zd,CLe,zh]⟩
 ·have h':¬((xs.length:Int)=0):=by have:=WK.2 h;omega
  push_cast [h'];refine call ((Nb xs [47] hx hl)) ?_;push_cast;exact ⟨by omega,[],rfl,rfl,by simp only[qM,if_neg h];push_cast [ze,zd,CLe,zh]⟩
def Ue (p:Lz):Bool:=(zF p).any (fun x=>decide (255<x.length))||decide (4095<p.length)
theorem uZ (p:Lz) (hp:p.length<=1000000):Fun Tryz.prog G0 72 [.str p] (qQ (Ue p)) 0:=by
 refine fon Tryz.func72 ?_;dsimp only[Tryz.f72];push_cast;refine call (J4 p) ?_;push_cast;refine range (zL (zF p)) (fun k=>decide (255<((zF p).getD k []).length)) 1 (fun k=>⟨[],[[.sc (.bool false)]],0,0⟩) (Xk p hp) (by push_cast) (by push_cast) (by push_cast) (Wc _) (by push_cast) (fun it h=>?_) (fun k _=>rfl) ?_ (fun k it hk hsf=>?_) (fun hsf=>?_)
 ·obtain ⟨x,_,rfl⟩:=WT.1 h;rfl
 ·exact wk
 ·obtain ⟨x,hx,rfl⟩:=QB hk;have hxd:(zF p).getD k []=x:=by rw[W6,hx];rfl
  push_cast;rw[hxd];refine br (fun h=>?_) (fun h=>?_)
  ·have h':255<x.length:=by have:=WN h;omega
   push_cast;refine ⟨by simpa using h',⟨[],[[.sc (.bool true)]],0,0⟩,rfl,wk,?_⟩;push_cast;refine ⟨[],rfl,rfl,?_⟩;push_cast [ze,zd,CLe,zh];have:(zF p).any (fun x=>decide (255<x.length))=true:=OF.2 ⟨x,Wf hx,by simpa using h'⟩;simp[Ue,this]
  ·have h':¬255<x.length:=by have:=OM h;omega
   push_cast;exact ⟨by simpa using h',wk⟩
 ·push_cast;refine ⟨[],rfl,rfl,?_⟩;push_cast [ze,zd,CLe,zh];have:(zF p).any (fun x=>decide (255<x.length))=false:=Ow.2 fun x hx=>by
   obtain ⟨k,hk,rfl⟩:=WE hx;have:=hsf k (by simpa using hk);rw[W6,Wa hk]at this;simpa using this
  simp[Ue,this];omega
def ZU (p:Lz):Lz:=(zF p).getLastD (if Lib.hasPrefix p [47] then [47] else [])
theorem zaA (p:Lz) (hp:p.length<=1000000):Fun Tryz.prog G0 47 [.str p] (.str (ZU p)) 0:=by
 refine fon Tryz.func47 ?_;dsimp only[Tryz.f47];push_cast;refine call (Xz p [47]) ?_;push_cast;have go:∀ b0:Lz,b0=(if Lib.hasPrefix p [47] then [47] else [])->ZU p=((zF p).take (zF p).length).getLastD b0:=fun b0 hb=>by rw[Oe,hb];rfl
 have main:∀ b0:Lz,b0=(if Lib.hasPrefix p [47] then [47] else [])->∀ k x,(zF p)[k]?=some x->((zF p).take (k+1)).getLastD b0=x:=fun b0 _ k x hx=>by
  rw[WX,hx];simp
 cases hpf:Lib.hasPrefix p [47] with
 | true =>
  rw[hpf]at go main;push_cast;refine call (J4 p) ?_;push_cast;refine range (zL (zF p)) (fun k=>false) 1 (fun k=>⟨[],[[.str (((zF p).take k).getLastD [47])]],0,0⟩) (Xk p hp) (by push_cast) (by push_cast) (by push_cast) (Wc _) (by push_cast) (fun it h=>?_) (fun k _=>rfl) ?_ (fun k it hk hsf=>?_) (fun hsf=>?_)
  ·obtain ⟨x,_,rfl⟩:=WT.1 h;rfl
  ·exact JF.mk [] rfl rfl (Wb _) rfl (by push_cast [ze,zd,CLe,zh]) (by push_cast [ze,zd,CLe,zh];rfl)
  ·obtain ⟨x,hx,rfl⟩:=QB hk;have:=main [47] rfl k x hx;push_cast;exact wk (h5:=by push_cast [ze,zd,CLe,zh,this])
  ·have:=go [47] rfl;push_cast;exact ⟨[],rfl,rfl,by push_cast [ze,zd,CLe,zh];exact this.symm⟩
 | false =>
  rw[hpf]at go main;push_cast;refine call (J4 p) ?_;push_cast;refine range (zL (zF p)) (fun k=>false) 1 (fun k=>⟨[],[[.str (((zF p).take k).getLastD [])]],0,0⟩) (Xk p hp) (by push_cast) (by push_cast) (by push_cast) (Wc _) (by push_cast) (fun it h=>?_) (fun k _=>rfl) ?_ (fun k it hk hsf=>?_) (fun hsf=>?_)
  ·obtain ⟨x,_,rfl⟩:=WT.1 h;rfl
  ·exact JF.mk [] rfl rfl (Wb _) rfl (by push_cast [ze,zd,CLe,zh]) (by push_cast [ze,zd,CLe,zh];rfl)
  ·obtain ⟨x,hx,rfl⟩:=QB hk;have:=main [] rfl k x hx;push_cast;exact wk (h5:=by push_cast [ze,zd,CLe,zh,this])
  ·have:=go [] rfl;push_cast;exact ⟨[],rfl,rfl,by push_cast [ze,zd,CLe,zh];exact this.symm⟩
def QR (p q:Lz):Bool:=decide (p=q)||decide (q = [47])||Lib.hasPrefix p (q++[47])
theorem HT (p q:Lz) (hq:q.length<=1000000):Fun Tryz.prog G0 185 [.str p,.str q] (qQ (QR p q)) 0:=by
 refine fon Tryz.func185 ?_;dsimp only[Tryz.f185];push_cast;by_cases h1:p=q
 ·push_cast [h1];exact ⟨[],rfl,rfl,by push_cast [ze,zd,CLe,zh];simp[QR]⟩
 ·by_cases h2:q = [47]
  ·subst h2;push_cast [h1];exact ⟨[],rfl,rfl,by push_cast [ze,zd,CLe,zh];simp[QR]⟩
  ·push_cast [h1,h2];refine ⟨by omega,?_⟩;refine call (Xz p (q++[47])) ?_;push_cast;exact ⟨[],rfl,rfl,by push_cast [ze,zd,CLe,zh];simp[QR,h1,h2]⟩
end
section
open Go.RowKit
theorem Z1 (l:Lz) (c:UInt8):Fun Tryz.prog G0 71 [.str l,.sc (.int .u8 (c.toNat:Int))] (.sc (.int .i64 (Lib.indexByte l c))) 0:=by
 refine Fun.wrap (by kernel_rfl) fun R vs h=>?_;obtain ⟨v1,us1,rfl,h1,h⟩:=zf.1 h;obtain ⟨v2,us2,rfl,h2,h⟩:=zf.1 h;rw[zk]at h;subst h;rw[zU]at h1;rw[zp]at h2;subst h1 h2;refine (Tryz.strings_IndexByte ⟨l.toArray⟩ (c.toNat:Int) R.w).mono ?_;rintro e w' ⟨rfl,rfl⟩;exact ⟨_,rfl,W1 _ _,fun R' _=>zp.2 (by simp)⟩
theorem XA (r:Int):Fun Tryz.prog G0 243 [.sc (.int .i32 r)] (.sc (.bool (Lib.validRune r))) 0:=by
 refine Fun.wrap (by kernel_rfl) fun R vs h=>?_;obtain ⟨v1,us1,rfl,h1,h⟩:=zf.1 h;rw[zk]at h;subst h;rw[zp]at h1;subst h1;refine (Tryz.utf8_ValidRune r R.w).mono ?_;rintro e w' ⟨rfl,rfl⟩;exact ⟨_,rfl,W1 _ _,fun R' _=>zp.2 rfl⟩
theorem zhA (r:Int) (hv:Utf8.valid r=true) (h128:128<=r):∃ l c,(Utf8.encode r).data.toList=l++[c]/\1<=l.length/\l.length<=3/\128<=c.toNat:=by
 obtain ⟨h1,h2,h3⟩:=encode_facts r hv h128;generalize Utf8.encode r=bs at h1 h2 h3 ⊢;have hs:bs.data.toList.length=bs.size:=WV;have h4:=h3 (by omega);have h5:bs.data.toList[bs.size-1]?=some (bs[bs.size-1]'(by omega)):=Lib.data_getElem? bs _ (by omega);generalize bs[bs.size-1]'(by omega)=c at h4 h5;generalize bs.data.toList=l at hs h5;refine ⟨l.take (bs.size-1),c,?_,by simp;omega,by simp;omega,h4⟩;have:=Ol (bs.size-1) l;have hd:l.drop (bs.size-1) = [c]:=by
  have hlt:bs.size-1<l.length:=by omega
  rw[Ou hlt];rw[Wa hlt]at h5;cases h5;rw[AO (by omega)]
 rw[hd]at this;exact this.symm
theorem M6 (r:Int) (h1:128<=r) (hv:Utf8.valid r=true) (h2:r≠65533):Fun Tryz.prog G0 204 [.str [47,0],.sc (.int .i32 r)] (.sc (.int .i64 (-1))) 0:=by
 have hlv:Lib.validRune r=true:=by
  have:=validRune_eq r;rw[hv]at this;exact this.symm
 obtain ⟨l,c,he,hl1,hl3,hc⟩:=zhA r hv h1;have ha:0<=r:=by omega
 have hb:¬r<128:=by omega
 have hc0:¬((0:Int)=(c.toNat:Int)):=by omega
 have hix:=Z1 [] c
 match l,hl1,hl3 with
 | [x],_,_ =>
  refine fon Tryz.func204 ?_;dsimp only[Tryz.f204];push_cast [ha,hb,h2];refine call (XA r) ?_;push_cast [hlv,he];refine loop (fun k:Nat=>⟨[(0,.str [47,0]),(1,.sc (.int .i32 r)),(7,.str [x,c]),(8,.sc (.int .i64 1)),(9,.sc (.int .i64 1)),(10,.sc (.int .i64 0))],[],0,0⟩) (fun k=>True) (fun k=>0) 0 trivial ?_ ?_
  ·exact wk
  ·intro k _;push_cast [hc0];refine zcD hix ?_;have hi0:Lib.indexByte [] c = -1:=rfl;push_cast [hi0];exact dn
 | [x,y],_,_ =>
  refine fon Tryz.func204 ?_;dsimp only[Tryz.f204];push_cast [ha,hb,h2];refine call (XA r) ?_;push_cast [hlv,he];refine loop (fun k:Nat=>⟨[(0,.str [47,0]),(9,.sc (.int .i64 2))],[],0,0⟩) (fun k=>True) (fun k=>0) 0 trivial ?_ ?_
  ·exact wk
  ·intro k _;push_cast;exact dn
 | [x,y,z],_,_ =>
  refine fon Tryz.func204 ?_;dsimp only[Tryz.f204];push_cast [ha,hb,h2];refine call (XA r) ?_;push_cast [hlv,he];refine loop (fun k:Nat=>⟨[(0,.str [47,0]),(9,.sc (.int .i64 3))],[],0,0⟩) (fun k=>True) (fun k=>0) 0 trivial ?_ ?_
  ·exact wk
  ·intro k _;push_cast;exact dn
theorem Nz (w:World):Calls Tryz.prog 204 #[.string ⟨#[47,0]⟩,.int .i32 65533] w fun e w'=>e = .returned (.int .i64 (-1))/\Below w.heap.size w w':=by
 go_enter Tryz.func204,Tryz.ntmps204
 go_wp2
 go_loopg [5,6] 2 (fun g _ _ wx=>∃ i:Nat,i+g=2/\wx=w.iter ⟨#[47,0]⟩ i)
 case atStart=>exact ⟨0,by omega,rfl⟩
 case round =>
  obtain ⟨i,hig,rfl⟩:=hrel;cases gk with
  | zero =>
   obtain rfl:i=2:=by omega
   have hnx:=fun ty=>run_next_end (P:=Tryz.prog) w ⟨#[47,0]⟩ 2 ty (by decide)
   go_wp2
   go_ret
   exact ⟨rfl,(W1 _ _).alloc (Wb _) _⟩
  | succ g =>
   have hi:i<(ByteArray.mk #[47,0]).size:=by show i<2;omega
   have hx128:((ByteArray.mk #[47,0])[i]'hi).toNat<128:=by
    have:i=0∨i=1:=by omega
    rcases this with rfl | rfl
    ·exact (by decide:(47:UInt8).toNat<128)
    ·exact (by decide:(0:UInt8).toNat<128)
   have hnx:=fun ty=>run_next_ascii (P:=Tryz.prog) w ⟨#[47,0]⟩ i ty hi hx128;have hne:((((ByteArray.mk #[47,0])[i]'hi).toNat:Int)==65533)=false:=by
    rw[On];omega
   go_wp2
   go_roundg g
   case measure=>omega
   case rel=>exact ⟨i+1,by omega,rfl⟩
end
section
open Go.RowKit Go.Shelf
def bad (b:UInt8):Bool:=decide (b=47)||decide (b=0)
theorem VS (b:UInt8):[47,0].contains b=bad b:=by simp[bad,List.contains_iff_mem,BJ]
theorem vS {b:Nat} {s:ByteArray} {pos:Nat} (hb:W.heap[b]?=some (.stringIter s pos)) (h:pos<s.size) (ty:TypeId) :
  (Instr.next (.pointer (some ⟨b,0,none⟩)) true ty).run P W = .ok (.tuple #[.bool true,.int .i64 pos,.int .i32 (Utf8.decode s pos).1]) (W.putObj b (.stringIter s (pos+(Utf8.decode s pos).2))):=by
 simp only[Instr.next,getObj,setObj,Wl,Sem.run,hb,Result.andThen,h,if_true];simp[goInt,Sem.run,hb,World.putObj]
theorem UL {b:Nat} {s:ByteArray} {pos:Nat} (hb:W.heap[b]?=some (.stringIter s pos)) (h:¬pos<s.size) (ty:TypeId) :
  (Instr.next (.pointer (some ⟨b,0,none⟩)) true ty).run P W = .ok (.tuple #[.bool false]) W:=by
 simp[Instr.next,getObj,Sem.run,hb,h]
theorem get!_eq (s:ByteArray) (k:Nat) (hk:k<s.size):s.get! k=s[k]'hk:=by
 simp[ByteArray.get!,BN,hk];rfl
theorem zix {c:Nat} (h:c<55296∨(57344<=c/\c<=1114111)):Utf8.valid (c:Int)=true:=by
 unfold Utf8.valid;rcases h with h | h
 ·have h1:((c:Int)<55296):=by omega
  simp;omega
 ·simp;omega
theorem yK (s:ByteArray) (i:Nat) (h:i<s.size):(((s[i]'h).toNat<128/\Utf8.decode s i=((s[i]'h).toNat,1))∨(128<=(Utf8.decode s i).1/\Utf8.valid ((Utf8.decode s i).1:Int)=true/\1<=(Utf8.decode s i).2/\i+(Utf8.decode s i).2<=s.size/\∀ j (hj:j<s.size),i<=j->j<i+(Utf8.decode s i).2->128<=(s[j]'hj).toNat)):=by
 by_cases ha:(s[i]'h).toNat<128
 ·exact .inl ⟨ha,decode_ascii s i h ha⟩
 ·refine .inr ?_;have hb0:¬(s.get! (i+0)).toNat<128:=by rw[Aa,get!_eq s i h];exact ha
  have hby:∀ n,(∀ k,k<n->128<=(s.get! (i+k)).toNat)->∀ j (hj:j<s.size),i<=j->j<i+n->128<=(s[j]'hj).toNat:=fun n hn j hj h1 h2=>by
   have:=hn (j-i) (by omega);rw[show i+(j-i)=j by omega,get!_eq s j hj]at this;exact this
  have hone:128<=65533/\Utf8.valid ((65533:Nat):Int)=true/\1<=1/\i+1<=s.size/\∀ j (hj:j<s.size),i<=j->j<i+1->128<=(s[j]'hj).toNat:=
   ⟨by omega,by decide,by omega,by omega,hby 1 fun k hk=>by rw[show k=0 by omega];omega⟩
  unfold Utf8.decode;simp only[if_neg hb0,Utf8.runeError];obtain ⟨b0,hg0⟩:∃ b,(s.get! (i+0)).toNat=b:=⟨_,rfl⟩;obtain ⟨b1,hg1⟩:∃ b,(s.get! (i+1)).toNat=b:=⟨_,rfl⟩;obtain ⟨b2,hg2⟩:∃ b,(s.get! (i+2)).toNat=b:=⟨_,rfl⟩;obtain ⟨b3,hg3⟩:∃ b,(s.get! (i+3)).toNat=b:=⟨_,rfl⟩;rw[hg0]at hb0;simp only[hg0,hg1,hg2,hg3];have hlt:b0<256:=by rw[←hg0];exact (s.get! (i+0)).toNat_lt
  split
  ·rename_i hc;simp only[Wt,Og,W7]at hc;split
   ·rename_i hv;refine ⟨by show 128<=_;omega,zix (.inl (by omega)),by show 1<=2;omega,by show i+2<=_;omega,hby 2 fun k hk=>?_⟩;rcases (show k=0∨k=1 by omega) with rfl | rfl
    ·rw[hg0];omega
    ·rw[hg1];omega
   ·exact hone
  ·split
   ·rename_i hc;simp only[Wt,Og,W7]at hc;split
    ·rename_i hv;simp only[Wt,W7]at hv;refine ⟨by show 128<=_;omega,hv.2,by show 1<=3;omega,by show i+3<=_;omega,hby 3 fun k hk=>?_⟩;rcases (show k=0∨k=1∨k=2 by omega) with rfl | rfl | rfl
     ·rw[hg0];omega
     ·rw[hg1];omega
     ·rw[hg2];omega
    ·exact hone
   ·split
    ·rename_i hc;simp only[Wt,Og,W7]at hc;split
     ·rename_i hv;simp only[Wt,W7]at hv;refine ⟨by show 128<=_;omega,hv.2,by show 1<=4;omega,by show i+4<=_;omega,hby 4 fun k hk=>?_⟩;rcases (show k=0∨k=1∨k=2∨k=3 by omega) with rfl | rfl | rfl | rfl
      ·rw[hg0];omega
      ·rw[hg1];omega
      ·rw[hg2];omega
      ·rw[hg3];omega
     ·exact hone
    ·exact hone
theorem Nn (r:Int) (h1:128<=r) (hv:Utf8.valid r=true) (w:World):Calls Tryz.prog 204 #[.string ⟨#[47,0]⟩,.int .i32 r] w fun e w'=>e = .returned (.int .i64 (-1))/\Below w.heap.size w w':=by
 by_cases h2:r=65533
 ·subst h2;exact Nz w
 ·refine ((M6 r h1 hv h2).2 ⟨w,fun _ _=>False,fun _=>False⟩ [.string ⟨#[47,0]⟩,.int .i32 r] (fun g cs h=>by cases h) ?_).mono ?_
  ·exact zf.2 ⟨_,_,rfl,zU.2 rfl,zf.2 ⟨_,_,rfl,zp.2 rfl,zk.2 rfl⟩⟩
  ·rintro e w' ⟨v,R',L',rfl,rfl,hst,hr⟩;rw[zp]at hr;exact ⟨by rw[hr],hst.below⟩
theorem zeP (w:World) (s:ByteArray):(w.iter s 0).heap[w.heap.size]?=some (.stringIter s 0):=World.iter_heap w s 0
theorem vZ {w:World} {s:ByteArray} {p:Nat} (hb:Below w.heap.size w W) (hs:W.heap[w.heap.size]?=some (.stringIter s p)) (p':Nat):Below w.heap.size w (W.putObj w.heap.size (.stringIter s p'))/\(W.putObj w.heap.size (.stringIter s p')).heap[w.heap.size]?=some (.stringIter s p'):=
 ⟨⟨hb.os,hb.tape,hb.output,by simpa using hb.size,fun k hk=>(WW (by omega)).trans (hb.block k hk)⟩,Bb (z6 hs)⟩
theorem zbn {w W':World} {s:ByteArray} {p:Nat} (hb:Below w.heap.size w W) (hs:W.heap[w.heap.size]?=some (.stringIter s p)) (h:Below W.heap.size W W'):Below w.heap.size w W'/\W'.heap[w.heap.size]?=some (.stringIter s p):=
 ⟨hb.trans (h.mono hb.size),(h.block _ (z6 hs)).trans hs⟩
theorem Hj (s:ByteArray) (w:World) (h8:s.size<=8):Calls Tryz.prog 167 #[.string s,.string ⟨#[47,0]⟩] w fun e w'=>e = .returned (.int .i64 (Lib.indexAny s.data.toList [47,0]))/\Below w.heap.size w w':=by
 have h8z:decide ((8:Int)<(s.size:Int))=false:=Wm (by omega);have hsi:=zeP w s;have hbi:Below w.heap.size w (w.iter s 0):=(W1 _ _).alloc (Wb _) _;have HI:Aside ((w.iter s 0).heap[w.heap.size]?=some (.stringIter s 0)/\Below w.heap.size w (w.iter s 0)):=⟨hsi,hbi⟩;clear hsi hbi
 go_enter Tryz.func167,Tryz.ntmps167
 go_wp2_with (go_at_call 205;refine (Tryz.strings_shouldUseASCIISet _ _).mono ?_;rintro e w' ⟨rfl,hw⟩;rw[hw,h8z])
 go_loopg [9,10] s.size (fun g _ _ wx=>∃ i:Nat,i+g=s.size/\wx.heap[w.heap.size]?=some (.stringIter s i)/\Below w.heap.size w wx/\Lib.NoAny s.data.toList [47,0] i)
 case atStart=>exact ⟨0,by omega,HI.out.1,HI.out.2,Lib.NoAny.zero _ _⟩
 case round =>
  obtain ⟨i,hig,hs,hbl,hno⟩:=hrel;have HN:Aside (Lib.NoAny s.data.toList [47,0] i/\wr.heap[w.heap.size]?=some (.stringIter s i)/\Below w.heap.size w wr):=⟨hno,hs,hbl⟩;cases gk with
  | zero =>
   obtain rfl:i=s.size:=by omega
   have hnx:=fun ty=>UL (P:=Tryz.prog) hs (by omega) ty;clear hno hs hbl
   go_wp2
   go_ret
   exact ⟨by rw[Lib.indexAny_none (by rw[←Lib.size_eq];exact HN.out.1)];rfl,HN.out.2.2⟩
  | succ g =>
   have hi:i<s.size:=by omega
   have hnx:=fun ty=>vS (P:=Tryz.prog) hs hi ty;have hpi:=vZ hbl hs (i+(Utf8.decode s i).2);have HP:Aside (Below w.heap.size w (wr.putObj w.heap.size (.stringIter s (i+(Utf8.decode s i).2)))/\(wr.putObj w.heap.size (.stringIter s (i+(Utf8.decode s i).2))).heap[w.heap.size]?=some (.stringIter s (i+(Utf8.decode s i).2))):=hpi;clear hno hs hbl hpi;obtain ⟨x,hx⟩:∃ x:UInt8,s[i]'hi=x:=⟨_,rfl⟩;have hxl:s.data.toList[i]?=some x:=by rw[←hx];exact Lib.data_getElem? s i hi
   rcases yK s i hi with ⟨hd1,hd2⟩ | ⟨hd1,hd2,hd3,hd4,hd5⟩
   ·rw[hx]at hd1 hd2;rw[hd2]at hnx HP;have Hx:Aside (s.data.toList[i]?=some x):=hxl;clear hxl hx hd2;have hcon:=Lib.contains_iff_indexByte [47,0] x;have hback:((x.toNat:Int)).toNat.toUInt8=x:=by simp
    cases hin:([47,0]:Lz).contains x
    ·rw[hin]at hcon;have hlt:¬((0:Int)<=Lib.indexByte [47,0] x):=OM hcon.symm;clear hcon
     go_wp2_with (go_at_call 204;refine (Tryz.strings_IndexRune_ascii _ _ _ (by omega) (by omega)).mono ?_;rintro e w' ⟨rfl,hw⟩;rw[hw,hback])
     go_roundg g
     case measure=>omega
     case rel=>exact ⟨i+1,by omega,HP.out.2,HP.out.1,HN.out.1.succ Hx.out hin⟩
    ·rw[hin]at hcon;have hge:(0:Int)<=Lib.indexByte [47,0] x:=WN hcon.symm;clear hcon
     go_wp2_with (go_at_call 204;refine (Tryz.strings_IndexRune_ascii _ _ _ (by omega) (by omega)).mono ?_;rintro e w' ⟨rfl,hw⟩;rw[hw,hback])
     go_ret
     exact ⟨by rw[Lib.indexAny_hit HN.out.1 Hx.out hin];rfl,HP.out.1⟩
   ·obtain ⟨c,hc⟩:∃ c,(Utf8.decode s i).1=c:=⟨_,rfl⟩;obtain ⟨n,hn⟩:∃ n,(Utf8.decode s i).2=n:=⟨_,rfl⟩;rw[hc,hn]at hnx;rw[hn]at HP hd3 hd4 hd5;rw[hc]at hd1 hd2;have H5:Aside (∀ j (hj:j<s.size),i<=j->j<i+n->128<=(s[j]'hj).toNat):=hd5;have H2:Aside (Utf8.valid (c:Int)=true):=hd2;clear hd5 hd2 hxl hx hc hn
    go_wp2_with (go_at_call 204;refine (Nn _ (by omega) H2.out _).mono ?_;rintro e w' ⟨rfl,hw⟩;have HW:=zbn HP.out.1 HP.out.2 hw)
    go_roundg (s.size-(i+n))
    case measure=>omega
    case rel =>
     refine ⟨i+n,by omega,HW.2,HW.1,fun j b hj hb=>?_⟩;rcases Wr j i with g | g
     ·exact HN.out.1 j b g hb
     ·have hjs:j<s.size:=by omega
      have:=H5.out j hjs g hj;have hb2:=Lib.data_getElem? s j hjs;rw[hb]at hb2;have hb3:b=s[j]'hjs:=Option.some.inj hb2;rw[VS,hb3];have h47:s[j]'hjs≠47:=fun e=>by rw[e]at this;revert this;decide
      have h00:s[j]'hjs≠0:=fun e=>by rw[e]at this;revert this;decide
      simp[bad,h47,h00]
end
section
open Go.RowKit Go.Shelf
theorem HH (w:World):(zeroValue 234).run Tryz.prog w = .ok (.agg (Array.replicate 256 (.bool false))) w:=by kernel_rfl
theorem VN:∀ l:Lz,decide (0<=Lib.indexAny l [47,0])=l.any bad
 | []=>rfl
 | b :: l=>by
  have ih:=VN l;have hg:=Lib.indexAny_ge [47,0] l;unfold Lib.indexAny;rw[VS,A5];cases hb:bad b with
  | true=>simp
  | false =>
   simp only[WO,W4,O1,←ih];split
   ·rename_i h;have:=Og.1 h
    first | rw[this];done | (rw[this];rfl)
   ·rename_i h;have h':Lib.indexAny l [47,0]≠-1:=by simpa using h
    rw[Ba];omega
theorem xv (l:Lz) (hl:l.length<=1000000):Fun Tryz.prog G0 167 [.str l,.str [47,0]] (.sc (.int .i64 (Lib.indexAny l [47,0]))) 0:=by
 refine Fun.wrap (by kernel_rfl) fun R vs h=>?_;obtain ⟨v1,us1,rfl,h1,h⟩:=zf.1 h;obtain ⟨v2,us2,rfl,h2,h⟩:=zf.1 h;rw[zk]at h;subst h;rw[zU]at h1 h2;subst h1 h2;have hsz:(ByteArray.mk l.toArray).size=l.length:=by simp[ByteArray.size]
 by_cases h8:l.length<=8
 ·refine (Hj ⟨l.toArray⟩ R.w (by omega)).mono ?_;rintro e w' ⟨rfl,hb⟩;exact ⟨_,rfl,hb,fun R' _=>zp.2 (by simp)⟩
 ·refine (Tryz.strings_IndexAny_long HH ⟨l.toArray⟩ ⟨#[47,0]⟩ R.w (by decide) (by omega) (by omega) (by decide) ?_).mono ?_
  ·intro j b hb;have:b=47∨b=0:=by
    have:=Wf hb;simpa using this
   rcases this with rfl | rfl<;>decide
  ·rintro e w' ⟨rfl,rfl⟩;exact ⟨_,rfl,((W1 _ _).alloc (Wb _) _).alloc (by simp) _,fun R' _=>zp.2 (by simp)⟩
theorem J9 (l:Lz) (hl:l.length<=1000000):Fun Tryz.prog G0 120 [.str l,.str [47,0]] (qQ (l.any bad)) 0:=by
 have h:=VN l;refine fon Tryz.func120 ?_;dsimp only[Tryz.f120];push_cast;refine call (xv l hl) ?_;push_cast;exact dn (by push_cast [ze,zd,CLe,zh,h])
def may (l:Lz):Bool:=!decide (l = [])&&decide (l.length<=255)&&!l.any bad&&!decide (l = [46])&&!decide (l = [46,46])
theorem vh (l:Lz) (hl:l.length<=1000000):Fun Tryz.prog G0 70 [.str l] (qQ (may l)) 0:=by
 by_cases h1:l = []
 ·refine fon Tryz.func70 ?_;dsimp only[Tryz.f70];push_cast [h1];exact ⟨[],rfl,rfl,by push_cast [ze,zd,CLe,zh];simp[may]⟩
 ·by_cases h2:l.length<=255
  ·have h2':(l.length:Int)<=255:=by omega
   cases h3:l.any bad with
   | true =>
    refine fon Tryz.func70 ?_;dsimp only[Tryz.f70];push_cast [h1,h2'];refine call (J9 l hl) ?_;push_cast [h3];exact ⟨[],rfl,rfl,by push_cast [ze,zd,CLe,zh];simp[may,h3]⟩
   | false =>
    by_cases h4:l = [46]
    ·subst h4;refine fon Tryz.func70 ?_;dsimp only[Tryz.f70];push_cast [h2'];refine call (J9 _ hl) ?_;push_cast [h3];exact ⟨[],rfl,rfl,by push_cast [ze,zd,CLe,zh];simp[may]⟩
    ·refine fon Tryz.func70 ?_;dsimp only[Tryz.f70];push_cast [h1,h2'];refine call (J9 l hl) ?_;push_cast [h3,h4];exact ⟨[],rfl,rfl,by push_cast [ze,zd,CLe,zh];simp[may,h1,h2,h3,h4]⟩
  ·have h2':¬(l.length:Int)<=255:=by omega
   refine fon Tryz.func70 ?_;dsimp only[Tryz.f70];push_cast [h1,h2'];exact ⟨[],rfl,rfl,by push_cast [ze,zd,CLe,zh];simp[may,h2]⟩
theorem zck (l:Lz) (hl:l.length<=1000000):Fun Tryz.prog G0 254 [.str l] (qQ (!may l)) 0:=by
 refine fon Tryz.func254 ?_;dsimp only[Tryz.f254];push_cast;refine call (vh l hl) ?_;push_cast;exact dn
end
section
open Go.RowKit
def zdL (xs:List Lz):Int:=match xs.findIdx? (fun x=>!may x) with | some i=>(i:Int) | none=>-1
theorem zhS (xs:List Lz):decide (0<=zdL xs) = !xs.all may:=by
 unfold zdL;cases h:xs.findIdx? (fun x=>!may x) with
 | none =>
  have:=List.findIdx?_eq_none_iff.1 h;have h2:xs.all may=true:=WA.2 fun x hx=>by simpa using this x hx
  rw[h2];rfl
 | some i =>
  have h1:=List.findIdx?_eq_some_iff_getElem.1 h;obtain ⟨hi,hp,_⟩:=h1;have h2:xs.all may=false:=List.all_eq_false.2 ⟨xs[i],Wv hi,by simpa using hp⟩;rw[h2];simp
theorem Gz (xs:List Lz) (hx:xs.length<=1000001) (hl:∀ x∈xs,x.length<=1000000):Fun Tryz.prog G0 276 [.sl 1 (zL xs),.clo (.func 254) [] []] (.sc (.int .i64 (zdL xs))) 0:=by
 refine fon Tryz.func276 ?_;dsimp only[Tryz.f276];push_cast;refine loop (fun k:Nat=>⟨[(0,.sl 1 (zL xs)),(1,.clo (.func 254) [] []),(7,.sc (.int .i64 (xs.length:Int))),(8,.sc (.int .i64 k))],[],0,0⟩) (fun k=>k<=xs.length/\∀ j (hj:j<xs.length),j<k->may (xs[j]'hj)=true) (fun k=>xs.length-k) 0 ⟨Wc _,fun j _ hj=>by omega⟩ ?_ ?_
 ·exact wk
 ·intro k hk;have hk1:=hk.1;have hk2:=hk.2;by_cases h:k<xs.length
  ·have hg:(zL xs)[k]?=some [.str (xs[k]'h)]:=by rw[strs_get?,Wa h];rfl
   push_cast [h,hg];refine ⟨by omega,?_⟩;refine call (zck (xs[k]'h) (hl _ (Wv h))) ?_;push_cast;cases hm:may (xs[k]'h) with
   | true =>
    push_cast;refine ⟨by omega,k+1,⟨by omega,fun j hj hjk=>?_⟩,by omega,wk⟩;rcases Wr j k with g | g
    ·exact hk2 j hj g
    ·have:j=k:=by omega
     subst this;exact hm
   | false =>
    push_cast;refine ⟨[],rfl,rfl,?_⟩;push_cast [ze,zd,CLe,zh];have:xs.findIdx? (fun x=>!may x)=some k:=List.findIdx?_eq_some_iff_getElem.2 ⟨h,by simp[hm],fun j hj=>by simp[hk2 j (by omega) hj]⟩;simp[zdL,this]
  ·push_cast [h];refine ⟨[],rfl,rfl,?_⟩;push_cast [ze,zd,CLe,zh];have:xs.findIdx? (fun x=>!may x)=none:=List.findIdx?_eq_none_iff.2 fun x hx=>by
    obtain ⟨j,hj,rfl⟩:=WE hx;simp[hk2 j hj (by omega)]
   simp[zdL,this]
theorem Ud (xs:List Lz) (hx:xs.length<=1000001) (hl:∀ x∈xs,x.length<=1000000):Fun Tryz.prog G0 253 [.sl 1 (zL xs),.clo (.func 254) [] []] (qQ (!xs.all may)) 0:=by
 have h:=zhS xs;refine fon Tryz.func253 ?_;dsimp only[Tryz.f253];push_cast;refine call (Gz xs hx hl) ?_;push_cast;exact dn (by push_cast [ze,zd,CLe,zh,h])
def Yi (p:Lz):Bool:=decide (qM (zF p)=p)&&(zF p).all may
def XD (p:Lz):C:=.tup [.own 0 9 1 (zL (if Yi p then zF p else [])),qQ (Yi p)]
theorem Jc (x y:Lz) (r:List Lz) (sep:Lz):Lib.join (x :: y :: r) sep=x++sep++Lib.join (y :: r) sep:=by
 simp[Lib.join,List.intercalate,List.intersperse]
theorem Qv:∀ xs:List Lz,xs≠[]->(Lib.join xs [47]).length+1=(xs.map fun x=>x.length+1).sum
 | [],h=>absurd rfl h
 | [x],_=>by simp[Lib.join]
 | x :: y :: r,_=>by
  have ih:=Qv (y :: r) (by simp);rw[Jc];simp only[Wq,Wh,WC,Wp,OT]at ih ⊢;omega
theorem zeE:∀ l:Lz,((Jj l).map fun x=>x.length+1).sum=l.length+1
 | []=>rfl
 | b :: l=>by
  have ih:=zeE l;unfold Jj;split
  ·simp only[Wp,OT,WC,Wh,ih];omega
  ·cases h:Jj l with
   | nil=>exact absurd h (x7 l)
   | cons x r =>
    rw[h]at ih;simp only[Wp,OT,Wh]at ih ⊢;omega
theorem HX (f:Lz->Bool):∀ xs:List Lz,((xs.filter f).map fun x=>x.length+1).sum<=(xs.map fun x=>x.length+1).sum
 | []=>by simp
 | x :: r=>by
  have ih:=HX f r;rw[O6];split
  ·simp only[Wp,OT];omega
  ·simp only[Wp,OT];omega
theorem zdz:∀ (xs:List Lz) (x:Lz),x∈xs->x.length+1<=(xs.map fun x=>x.length+1).sum
 | y :: r,x,h=>by
  simp only[Wp,OT];rcases WH.1 h with rfl | h
  ·omega
  ·have:=zdz r x h;omega
theorem X5 (l:Lz):(Lib.join (zF l) [47]).length<=l.length/\∀ x∈zF l,x.length<=l.length:=by
 have h1:=zeE l;have h2:=HX (fun x=>!decide (x = [])) (Jj l);rw[←Yl]at h2;refine ⟨?_,fun x hx=>?_⟩
 ·by_cases h:zF l = []
  ·rw[h];simp[Lib.join]
  ·have:=Qv (zF l) h;omega
 ·have:=zdz (zF l) x hx;omega
theorem xn (p:Lz) (hp:p.length<=1000000):Fun Tryz.prog G0 223 [.str p] (XD p) 1:=by
 have hz:=jB p;have hj:=X5 p;by_cases h1:qM (zF p)=p
 ·have h1':(p=qM (zF p)):=h1.symm;refine fon Tryz.func223 ?_;dsimp only[Tryz.f223];push_cast;refine call (J4 p) ?_;push_cast;refine call (Qj p hp) ?_;push_cast;refine call (Qa (zF p) (by omega) (by omega)) ?_;push_cast [h1];refine call (Ud (zF p) (by omega) fun x hx=>by have:=hj.2 x hx;omega) ?_;push_cast;cases hm:(zF p).all may with
  | true =>
   push_cast;exact ⟨[.inl 0],rfl,rfl,by simp only[XD,Yi,h1,hm];push_cast [ze,zd,CLe,zh]<;>simp⟩
  | false =>
   push_cast;exact ⟨[.inr (9,1)],rfl,rfl,by simp only[XD,Yi,h1,hm];push_cast [ze,zd,CLe,zh]<;>simp⟩
 ·refine fon Tryz.func223 ?_;dsimp only[Tryz.f223];push_cast;refine call (J4 p) ?_;push_cast;refine call (Qj p hp) ?_;push_cast;refine call (Qa (zF p) (by omega) (by omega)) ?_;push_cast [h1];exact ⟨[.inr (9,1)],rfl,rfl,by simp only[XD,Yi,h1];push_cast [ze,zd,CLe,zh]<;>simp⟩
end
section
open Go.RowKit
theorem xD (xs:List Lz) (k:Nat) (x:Lz) (h:xs[k]?=some x):Lib.join (xs.take (k+1)) [47]=(if k=0 then x else Lib.join (xs.take k) [47]++[47]++x):=by
 cases xs with
 | nil=>simp at h
 | cons y r =>
  cases k with
  | zero=>simp at h;subst h;simp[Lib.join_one]
  | succ k =>
   simp only[Az,Nat.succ_ne_zero,W4];rw[Lib.join_cons,Lib.join_cons,Lib.joinTail_take_succ _ _ _ x (by simpa using h)];simp[WQ]
theorem znE (xs:List Lz) (k:Nat):(Lib.join (xs.take k) [47]).length<=(Lib.join xs [47]).length:=by
 by_cases h:xs.take k = []
 ·rw[h];simp[Lib.join]
 ·have h1:=Qv (xs.take k) h;have hx:xs≠[]:=fun e=>h (by rw[e];simp);have h2:=Qv xs hx;have h3:((xs.take k).map fun x=>x.length+1).sum<=(xs.map fun x=>x.length+1).sum:=by
   conv=>rhs;rw[←Ol k xs,Oc,BI]
   omega
  omega
theorem zc3 (xs:List Lz) (k:Nat) (x:Lz) (h:xs[k]?=some x):(if xs.take (k+1) = [] then [] else qM (xs.take (k+1)))=(if xs.take k = [] then [] else qM (xs.take k))++[47]++x:=by
 have hk:k<xs.length:=(Wd.1 h).1;have h1:xs.take (k+1)≠[]:=fun e=>by have:=Wy List.length e;rw[W5]at this;simp only[WC]at this;omega
 rw[if_neg h1];unfold qM;rw[if_neg h1,xD xs k x h];by_cases hk0:k=0
 ·subst hk0;simp
 ·have h2:xs.take k≠[]:=fun e=>by have:=Wy List.length e;rw[W5]at this;simp only[WC]at this;omega
  simp[h2,hk0]
def jst (xs:List Lz) (k:Nat):Lz:=if xs.take k = [] then [] else qM (xs.take k)
theorem zeu (xs:List Lz) (k:Nat):(jst xs k).length<=(Lib.join xs [47]).length+1:=by
 unfold jst;split
 ·simp
 ·rename_i h;have:=znE xs k;unfold qM;rw[if_neg h];simp;omega
theorem uc (xs:List Lz) (hx:xs.length<=2000001) (hl:(Lib.join xs [47]).length<=100000000):Fun Tryz.prog G0 64 [.sl 1 (zL xs)] (.str (qM xs)) 0:=by
 by_cases h0:xs = []
 ·subst h0;refine fon Tryz.func64 ?_;dsimp only[Tryz.f64];push_cast;exact ⟨[],rfl,rfl,by push_cast [ze,zd,CLe,zh]<;>simp[qM]⟩
 ·have h0':¬((xs.length:Int)=0):=by have:=WK.2 h0;omega
  refine fon Tryz.func64 ?_;dsimp only[Tryz.f64];push_cast [h0'];refine loop (fun k:Nat=>⟨[(0,.sl 1 (zL xs)),(3,.str (jst xs k)),(4,.sc (.int .i64 k))],[],0,0⟩) (fun k=>k<=xs.length) (fun k=>xs.length-k) 0 (Wc _) ?_ ?_
  ·exact JF.mk [] rfl rfl (Wc _) rfl (by push_cast [ze,zd,CLe,zh]<;>simp[jst]) (by push_cast [ze,zd,CLe,zh])
  ·intro k hk;by_cases h:k<xs.length
   ·have hg:=U1 xs k h;have hst:jst xs (k+1)=jst xs k++[47]++xs[k]'h:=zc3 xs k (xs[k]'h) (Wa h);have hjk:=zeu xs k;have hjl:=zeu xs (k+1);rw[hst]at hjl;simp only[Wq,Wh,WC]at hjl;push_cast [h,hg]
    repeat refine an ?_
    refine ⟨k+1,by omega,by omega,JF.mk [] rfl rfl (Wc _) rfl ?_ (by push_cast [ze,zd,CLe,zh])⟩;push_cast [ze,zd,CLe,zh];simp[hst]
   ·have hkl:k=xs.length:=by omega
    push_cast [h];exact ⟨[],rfl,rfl,by push_cast [ze,zd,CLe,zh]<;>simp[jst,hkl,h0]⟩
theorem HV (l:Lz) (hl:l.length<=2000000):Fun Tryz.prog G0 63 [.str l] (qQ (may l)) 0:=by
 refine fon Tryz.func63 ?_;dsimp only[Tryz.f63];push_cast;refine loop (fun k:Nat=>⟨[(0,.str l),(3,.sc (.int .i64 k))],[],0,0⟩) (fun k=>k<=l.length/\∀ j (hj:j<l.length),j<k->bad (l[j]'hj)=false) (fun k=>l.length-k) 0 ⟨Wc _,fun j _ hj=>by omega⟩ ?_ ?_
 ·exact wk
 ·intro k hk;have hk1:=hk.1;have hk2:=hk.2;by_cases h:k<l.length
  ·have hb:l[k]?=some (l[k]'h):=Wa h;have hbad:bad (l[k]'h)=true->may l=false:=fun hb=>by
    have:l.any bad=true:=OF.2 ⟨l[k]'h,Wv h,hb⟩;simp[may,this]
   by_cases h47:l[k]'h=47
   ·have h1:(((l[k]'h).toNat:Int)=47):=by rw[h47];rfl
    push_cast [h,hb,h1];refine ⟨by omega,[],rfl,rfl,?_⟩;push_cast [ze,zd,CLe,zh];rw[hbad (by simp[bad,h47])]
   ·have h1:¬(((l[k]'h).toNat:Int)=47):=zmj h47;by_cases h00:l[k]'h=0
    ·have h2:(((l[k]'h).toNat:Int)=0):=by rw[h00];rfl
     push_cast [h,hb,h1,h2];refine ⟨by omega,by omega,[],rfl,rfl,?_⟩;push_cast [ze,zd,CLe,zh];rw[hbad (by simp[bad,h00])]
    ·have h2:¬(((l[k]'h).toNat:Int)=0):=zmj h00;push_cast [h,hb,h1,h2]
     repeat refine an ?_
     refine ⟨k+1,⟨by omega,fun j hj hjk=>?_⟩,by omega,wk⟩;rcases Wr j k with g | g
     ·exact hk2 j hj g
     ·have:j=k:=by omega
      subst this;simp[bad,h47,h00]
  ·have hany:l.any bad=false:=Ow.2 fun x hx=>by
    obtain ⟨j,hj,rfl⟩:=WE hx;simp[hk2 j hj (by omega)]
   obtain rfl:k=l.length:=by omega
   by_cases h0:l = []
   ·subst h0;push_cast;exact ⟨[],rfl,rfl,by push_cast [ze,zd,CLe,zh]<;>simp[may]⟩
   ·have h1:(1:Int)<=(l.length:Int):=by have:=WK.2 h0;omega
    by_cases h2:(l.length:Int)<=255
    ·have h2':l.length<=255:=by omega
     by_cases h4:l = [46]
     ·subst h4;push_cast;exact ⟨[],rfl,rfl,by push_cast [ze,zd,CLe,zh]<;>simp[may]⟩
     ·by_cases h5:l = [46,46]
      ·subst h5;push_cast [h4];exact ⟨[],rfl,rfl,by push_cast [ze,zd,CLe,zh]<;>simp[may]⟩
      ·push_cast [h,h1,h2,h4,h5];exact ⟨[],rfl,rfl,by push_cast [ze,zd,CLe,zh]<;>simp[may,h0,h2',hany,h4,h5]⟩
    ·have h2':¬l.length<=255:=by omega
     push_cast [h,h1,h2];exact ⟨[],rfl,rfl,by push_cast [ze,zd,CLe,zh]<;>simp[may,h2']⟩
theorem xg (p:Lz) (hp:p.length<=2000000):Fun Tryz.prog G0 27 [.str p] (XD p) 1:=by
 have hn:=zgz p (by omega);have hs:=jB p;have hj:=X5 p;refine fon Tryz.func27 ?_;dsimp only[Tryz.f27];push_cast;refine call hn ?_;push_cast;refine loop (fun k:Nat=>⟨[(0,.str p),(4,.own 0 9 1 (zL (zF p))),(5,.sc (.int .i64 k))],[],1,0⟩) (fun k=>k<=(zF p).length/\∀ j (hj:j<(zF p).length),j<k->may ((zF p)[j]'hj)=true) (fun k=>(zF p).length-k) 0 ⟨Wc _,fun j _ hj=>by omega⟩ ?_ ?_
 ·exact wks [.inl 0]
 ·intro k hk;have hk1:=hk.1;have hk2:=hk.2;by_cases h:k<(zF p).length
  ·have hg:=U1 (zF p) k h;have hlen:=hj.2 ((zF p)[k]'h) (Wv h);push_cast [h,hg];refine ⟨by omega,?_⟩;refine call (HV ((zF p)[k]'h) (by omega)) ?_;push_cast;cases hm:may ((zF p)[k]'h) with
   | true =>
    push_cast
    repeat refine an ?_
    refine ⟨k+1,⟨by omega,fun j hj hjk=>?_⟩,by omega,wks [.inl 0]⟩;rcases Wr j k with g | g
    ·exact hk2 j hj g
    ·have:j=k:=by omega
     subst this;exact hm
   | false =>
    have hall:(zF p).all may=false:=List.all_eq_false.2 ⟨(zF p)[k]'h,Wv h,by simp[hm]⟩;push_cast;exact ⟨[.inr (9,1)],rfl,rfl,by simp only[XD,Yi,hall];push_cast [ze,zd,CLe,zh]<;>simp⟩
  ·have hall:(zF p).all may=true:=WA.2 fun x hx=>by
    obtain ⟨j,hj,rfl⟩:=WE hx;exact hk2 j hj (by omega)
   push_cast [h];refine call (uc (zF p) (by omega) (by omega)) ?_;push_cast;by_cases h1:qM (zF p)=p
   ·push_cast [h1];exact ⟨[.inl 0],rfl,rfl,by simp only[XD,Yi,h1,hall];push_cast [ze,zd,CLe,zh]<;>simp⟩
   ·push_cast [h1];exact ⟨[.inr (9,1)],rfl,rfl,by simp only[XD,Yi,h1];push_cast [ze,zd,CLe,zh]<;>simp⟩
end
section
open Go.RowKit
def UR (x:Lz):Prop:=x≠[]/\(47:UInt8)∉x
theorem zhl:∀ a t:Lz,Jj (a++47 :: t)=Jj a++Jj t
 | [],t=>by
  have:Jj (47 :: t) = [] :: Jj t:=rfl;exact this
 | b :: a,t=>by
  have ih:=zhl a t;have e1:Jj (b :: (a++47 :: t))=if b=47 then [] :: Jj (a++47 :: t) else match Jj (a++47 :: t) with
   | []=>[[b]]
   | x :: r=>(b :: x) :: r:=rfl
  have e2:Jj (b :: a)=if b=47 then [] :: Jj a else match Jj a with
   | []=>[[b]]
   | x :: r=>(b :: x) :: r:=rfl
  rw[Od,e1,e2,ih];by_cases hb:b=47
  ·simp[hb]
  ·rw[if_neg hb,if_neg hb];have hne:=x7 a;cases hs:Jj a with
   | nil=>exact absurd hs hne
   | cons x r=>simp
theorem zew:∀ x:Lz,(47:UInt8)∉x->Jj x = [x]
 | [],_=>rfl
 | b :: x,h=>by
  have hb:¬(b=47):=fun e=>h (by rw[e];exact Wj);have ih:=zew x (fun hx=>h (Wk _ hx));unfold Jj;rw[if_neg hb,ih]
theorem zgG:∀ (l x:Lz),x∈Jj l->(47:UInt8)∉x
 | [],x,h=>by simp[Jj]at h;subst h;simp
 | b :: l,x,h=>by
  have ih:=zgG l;unfold Jj at h;by_cases hb:b=47
  ·rw[if_pos hb]at h;rcases WH.1 h with rfl | h
   ·simp
   ·exact ih x h
  ·rw[if_neg hb]at h;have hne:=x7 l;cases hs:Jj l with
   | nil=>exact absurd hs hne
   | cons y r =>
    rw[hs]at h ih;simp only at h;rcases WH.1 h with rfl | h
    ·intro hm;rcases WH.1 hm with e | hm
     ·exact hb e.symm
     ·exact ih y Wj hm
    ·exact ih x (Wk _ h)
theorem N8 {l x:Lz} (h:x∈zF l):UR x:=by
 rw[Yl,Oy]at h;exact ⟨by simpa using h.2,zgG l x h.1⟩
theorem UO (a t:Lz):zF (a++47 :: t)=zF a++zF t:=by
 rw[Yl,Yl,Yl,zhl,OS]
theorem Mi {x:Lz} (h:UR x):zF x = [x]:=by
 rw[Yl,zew x h.2];simp[h.1]
theorem yE (l:Lz):zF (47 :: l)=zF l:=UO [] l
theorem H7:∀ xs:List Lz,(∀ x∈xs,UR x)->zF (Lib.join xs [47])=xs
 | [],_=>rfl
 | [x],h=>by rw[Lib.join_one];exact Mi (h x Wj)
 | x :: y :: r,h=>by
  have ih:=H7 (y :: r) fun z hz=>h z (Wk _ hz);rw[Jc,WQ];show zF (x++47 :: Lib.join (y :: r) [47])=_;rw[UO,ih,Mi (h x Wj)]
  rfl
theorem QY (xs:List Lz) (h:∀ x∈xs,UR x):zF (qM xs)=xs:=by
 unfold qM;by_cases hx:xs = []
 ·rw[if_pos hx,hx];rfl
 ·rw[if_neg hx,yE,H7 xs h]
theorem UB {x:Lz} (h:may x=true):UR x:=by
 simp only[may,Wt,An,Or]at h;refine ⟨h.1.1.1.1,fun hm=>?_⟩;have:=Ow.1 h.1.1.2 47 hm;exact this (by decide)
theorem zgm (xs zs:List Lz) (hx:xs≠[]) (hz:zs≠[]):qM (xs++zs)=qM xs++47 :: Lib.join zs [47]:=by
 unfold qM;rw[if_neg hx,if_neg (by simp[hx])];simp only[Od,List.cons.injEq,true_and]
 induction xs with
 | nil=>exact absurd rfl hx
 | cons x r ih =>
  cases r with
  | nil =>
   cases zs with
   | nil=>exact absurd rfl hz
   | cons z zs=>simp only[Od,Ox];rw[Jc,Lib.join_one];simp
  | cons y r =>
   have:=ih (by simp);simp only[Od]at this ⊢;rw[Jc,Jc,this];simp
theorem vt (xs ys:List Lz) (hx:∀ x∈xs,UR x) (hy:∀ y∈ys,UR y):QR (qM xs) (qM ys)=decide (xs.take ys.length=ys):=by
 have nx:=QY xs hx;have ny:=QY ys hy;rw[BJ];simp only[W7,QR,W9];constructor
 ·rintro ((h | h) | h)
  ·have:xs=ys:=by rw[←nx,←ny,h]
   rw[this,Oe]
  ·have:ys = []:=by rw[←ny,h];rfl
   rw[this];rfl
  ·unfold Lib.hasPrefix at h;obtain ⟨t,ht⟩:=List.isPrefixOf_iff_prefix.1 h;have:xs=ys++zF t:=by
    rw[←nx,←ht,WQ];show zF (qM ys++47 :: t)=_;rw[UO,ny]
   rw[this,By]
 ·intro h;have e:xs=ys++xs.drop ys.length:=by
   conv=>lhs;rw[←Ol ys.length xs,h]
  by_cases hys:ys = []
  ·exact .inl (.inr (by rw[hys];rfl))
  ·by_cases hd:xs.drop ys.length = []
   ·refine .inl (.inl ?_);rw[hd,Of]at e;rw[e]
   ·refine .inr ?_;rw[e,zgm _ _ hys hd];unfold Lib.hasPrefix;refine List.isPrefixOf_iff_prefix.2 ⟨Lib.join (xs.drop ys.length) [47],?_⟩;simp
theorem kB {p:Lz} (h:Yi p=true):qM (zF p)=p:=by
 unfold Yi at h;simp only[Wt,W7]at h;exact h.1
end
section
open Go.RowKit Go.ChangeMaps Go.ChangeShapes Go.WideShapes Go.Deep Go.Joins
theorem yo (R:Env):XL G0 R:=fun g cs h=>by cases h
theorem V1:∀ {rows:List (List C)},(∀ r∈rows,∃ c,r = [c]/\∃ l:Lz,c = .str l/\l.length<=maxLen)->∃ xs:List Lz,rows=zL xs/\∀ x∈xs,x.length<=maxLen
 | [],_=>⟨[],rfl,fun x h=>by cases h⟩
 | r :: rows,h=>by
  obtain ⟨xs,rfl,hx⟩:=V1 fun r' hr=>h r' (Wk _ hr);obtain ⟨c,rfl,l,rfl,hl⟩:=h r Wj;exact ⟨l :: xs,rfl,fun x hx'=>(WH.1 hx').elim (fun e=>e▸hl) (hx x)⟩
section
variable {H:Type} {enc:TypeId×Value->H} {W:World}
theorem zjM:Opn enc Tryz.prog W 30 fun c=>∃ xs:List Lz,c = .sl 1 (zL xs)/\xs.length<=maxLen/\∀ x∈xs,x.length<=maxLen:=fun fuel cs x hx=>by
 obtain ⟨v,c,rfl,⟨rows,rfl,hl,hr⟩,h1,h2⟩:=Opn.slice (W:=W) (enc:=enc) Tryz.underlying30 (show Tryz.prog.cellsOf 9=1 by kernel_rfl) (Nat.zero_lt_one) (jv.one (Opn.str Tryz.underlying9)) fuel cs x hx;obtain ⟨xs,rfl,hx'⟩:=V1 hr;exact ⟨v,_,rfl,⟨xs,rfl,by simpa using hl,hx'⟩,h1,h2⟩
end
end
section
open Go.RowKit
mutual
/-- the cells that read as a datum of Yi data -/
def VA:DataW Unit->Option (List Value)
 | .lit (.int k n)=>some [.int k n]
 | .lit (.bool b)=>some [.bool b]
 | .lit (.string l)=>some [.string ⟨l.toArray⟩]
 | .agg ds=>kJ ds
 | _=>none
def kJ:List (DataW Unit)->Option (List Value)
 | []=>some []
 | d :: ds=>match VA d,kJ ds with
  | some a,some b=>some (a++b)
  | _,_=>none
end
def Ml (P:Program):Nat->List Field->Nat->Bool
 | j,[],n=>j==n
 | j,f :: fs,n=>f.offset==j&&Ml P (j+P.cellsOf f.type) fs n
def kW (P:Program):Nat->TypeId->Bool
 | 0,_=>false
 | m+1,t=>match P.underlying t with
  | some .bool=>true
  | some (.int _)=>true
  | some .string=>true
  | some (.struct fs)=>Ml P 0 fs.toList (P.cellsOf t)&&fs.toList.all fun f=>kW P m f.type
  | some (.array n e)=>kW P m e&&P.cellsOf t==n*P.cellsOf e
  | _=>false
section
variable {enc:TypeId×Value->Unit} {P:Program} {w:World} {base:Nat} {spare:Nat->Bool} {held:Bool}
theorem kH {d:DataW Unit} {ds:List (DataW Unit)} {a b:List Value} (h1:VA d=some a) (h2:kJ ds=some b):kJ (d :: ds)=some (a++b):=by
 rw[kJ,h1,h2]
theorem ZQ {n:Nat} {cs:List Value} (ih:∀ t cs d p,kW P n t=true->DataW.trod enc P w base spare held n t cs=some (d,p)->VA d=some cs) {m:Nat} (hm:∀ t cs d p,kW P m t=true->DataW.trod enc P w base spare held n t cs=some (d,p)->VA d=some cs) :
  ∀ (fs:List Field) (j N:Nat) (xs:List (DataW Unit×List MemPlace)),Ml P j fs N=true->(fs.all fun f=>kW P m f.type)=true->cs.length=N->xs.length=fs.length ->
   (∀ (i:Nat) (f:Field),fs[i]?=some f->DataW.trod enc P w base spare held n f.type ((cs.drop f.offset).take (P.cellsOf f.type))=xs[i]?)->kJ (xs.map (·.1))=some (cs.drop j)
 | [],j,N,xs,hc,_,hl,hx,_=>by
  simp only[Ml,Og]at hc
  match xs,hx with
  | [],_=>rw[OR (by omega)];rfl
 | f :: fs,j,N,xs,hc,ha,hl,hx,hf=>by
  simp only[Ml,Wt,Og]at hc;simp only[A3,Wt]at ha
  match xs,hx with
  | x :: xs,hx =>
   have h0:=hf 0 f rfl;have e0:VA x.1=some ((cs.drop f.offset).take (P.cellsOf f.type)):=hm _ _ _ x.2 ha.1 h0;have e1:=ZQ ih hm fs _ N xs hc.2 ha.2 hl (by simpa using hx) fun i g hg=>hf (i+1) g hg;rw[Wp,kH e0 e1,hc.1,←Au,Ol]
theorem VU {n:Nat} {e:TypeId} {cs:List Value}:∀ (N j:Nat) (xs:List (DataW Unit×List MemPlace)),(∀ cs d p,DataW.trod enc P w base spare held n e cs=some (d,p)->VA d=some cs)->cs.length=(j+N)*P.cellsOf e->xs.length=N ->
   (∀ (i:Nat),i<N->DataW.trod enc P w base spare held n e ((cs.drop ((j+i)*P.cellsOf e)).take (P.cellsOf e))=xs[i]?)->kJ (xs.map (·.1))=some (cs.drop (j*P.cellsOf e))
 | 0,j,xs,_,hl,hx,_=>by
  match xs,hx with
  | [],_=>rw[OR (by simp at hl;omega)];rfl
 | N+1,j,xs,hm,hl,hx,hf=>by
  match xs,hx with
  | x :: xs,hx =>
   have e0:=hm _ _ x.2 (hf 0 (AT _));have e1:=VU N (j+1) xs hm (by rw[hl];congr 1;omega) (by simpa using hx) fun i hi=>by
    have:=hf (i+1) (by omega);rw[show j+(i+1)=j+1+i by omega]at this;exact this
   rw[Wp,kH e0 e1,Aa,show (j+1)*P.cellsOf e=j*P.cellsOf e+P.cellsOf e by rw[Om];omega,←Au,Ol]
theorem Qc:∀ (n m:Nat) (t:TypeId) (cs:List Value) (d:DataW Unit) (p:List MemPlace),kW P m t=true->DataW.trod enc P w base spare held n t cs=some (d,p)->VA d=some cs
 | 0,m,t,cs,d,p,_,h=>by simp[DataW.trod]at h
 | n+1,0,t,cs,d,p,hf,h=>by simp[kW]at hf
 | n+1,m+1,t,cs,d,p,hf,h=>by
  unfold kW at hf;split at hf
  ·rename_i hu;obtain ⟨b,rfl,e⟩:=DataW.trod_bool hu h;cases e;rfl
  ·rename_i k hu;obtain ⟨b,rfl,e,_⟩:=DataW.trod_int hu h;cases e;rfl
  ·rename_i hu;obtain ⟨s,rfl,e,_⟩:=DataW.trod_string hu h;cases e;rw[VA]
  ·rename_i fs hu;simp only[Wt]at hf;obtain ⟨xs,n',hn,e,hl,hx,hg⟩:=DataW.trod_struct hu h;cases hn;cases e;have hrec:∀ t cs d p,kW P m t=true->DataW.trod enc P w base spare held n t cs=some (d,p)->VA d=some cs:=fun t cs d p=>Qc n m t cs d p;have:=ZQ (n:=n) (fun t cs d p=>Qc n n t cs d p) hrec fs.toList 0 _ xs hf.1 hf.2 hl (by rw[hx];rfl) fun i f hif=>hg i f (by simpa using hif);rw[AU]at this;rw[VA,this]
  ·rename_i N e hu;simp only[Wt,Og]at hf;obtain ⟨xs,n',hn,e',hl,hx,hg⟩:=DataW.trod_array hu h;cases hn;cases e';have:=VU (n:=n) (e:=e) (cs:=cs) N 0 xs (fun cs d p=>Qc n m e cs d p hf.1) (by rw[hl,hf.2,Ot]) hx fun i hi=>by rw[Ot];exact hg i hi
   rw[Nat.zero_mul,AU]at this;rw[VA,this]
  ·cases hf
end
theorem No {g:Nat}:∀ (vs:List Value) (o:Nat),(∀ (i:Nat) v,vs[i]?=some v->W.cell? ⟨g,o+i,none⟩=some v)->(vs.all fun v=>v.oneCell')=true->zM (xz W) (vs.map zA) g o:=fun vs o h ho=>by
 refine qe fun i c hc=>?_;rw[Ww,At]at hc;obtain ⟨v,hv,rfl⟩:=hc;exact ⟨v,h i v hv,fun hf=>hf,jt _ _ v,WA.1 ho v (Wf hv)⟩
theorem GZ {l:List (String×DataW Unit)} (h:laidMetH P l W) (hp:(l.filter fun x=>x.2.handleName?.isSome) = []) {n:String} {d:DataW Unit} (hm:(n,d)∈l) {g:Nat} {t:TypeId} {m:Nat} {vs:List Value}
  (hg:P.globalNamed n=some g) (ht:(P.globals[g]?).map (·.type)=some t) (hf:kW P m t=true) (hd:VA d=some vs) (ho:(vs.all fun v=>v.oneCell')=true):zM (xz W) (vs.map zA) g 0:=by
 unfold laidMetH at h;rw[hp]at h;obtain ⟨g',t',cs,fuel,p,hg',ht',hvar,htr⟩:=Lib.laidMet.reads h hm;rw[hg]at hg';cases hg';rw[ht]at ht';cases ht';have e:=Qc _ _ _ _ _ _ hf htr;have e':vs=cs.toList:=Option.some.inj (hd.symm.trans e);subst e';refine No _ 0 (fun i v hv=>?_) ho;rw[World.var?_cell hg hvar,Ot];simpa using hv
theorem Jz {l:List (String×DataW Unit)} (h:laidMetH P l W) (hp:(l.filter fun x=>x.2.handleName?.isSome) = []) {n:String} {d:DataW Unit} (hm:(n,d)∈l) {g:Nat} {t:TypeId} {m:Nat} {vs:List Value}
  (hg:P.globalNamed n=some g) (ht:(P.globals[g]?).map (·.type)=some t) (hf:kW P m t=true) (hd:VA d=some vs) (ho:(vs.all fun v=>v.oneCell')=true) :
  zM (xz W) (vs.map zA) g 0/\(∃ us ty fl,(xz W).w.heap[g]?=some (.cells us ty fl)/\us.size=(vs.map zA).length)/\∀ o,¬(xz W).M g o:=by
 refine ⟨GZ h hp hm hg ht hf hd ho,?_,fun o h=>h⟩;unfold laidMetH at h;rw[hp]at h;obtain ⟨g',t',cs,fuel,p,hg',ht',hvar,htr⟩:=Lib.laidMet.reads h hm;rw[hg]at hg';cases hg';rw[ht]at ht';cases ht';have e:=Qc _ _ _ _ _ _ hf htr;have e':vs=cs.toList:=Option.some.inj (hd.symm.trans e);subst e';unfold World.var? at hvar;rw[hg]at hvar;simp only[AH]at hvar;split at hvar
 ·rename_i cs' ty fl hh;cases hvar;exact ⟨_,_,_,hh,by simp⟩
 ·cases hvar
theorem Fun.glob {G':zo} {f:FuncId} {n:Nat} (h:Fun P G f args r n) (hG:∀ g cs,G g=some cs->G' g=some cs):Fun P G' f args r n:=
 ⟨h.1,fun R vs hg ha=>h.2 R vs (fun g cs e=>hg g cs (hG g cs e)) ha⟩
theorem Fun.glob0 {G':zo} {f:FuncId} {n:Nat} (h:Fun P G0 f args r n):Fun P G' f args r n:=h.glob fun g cs e=>by cases e
end
section
open CA CB
open Go.RowKit
def zqK:List Value:=[.bool false,.bool false,.bool false,.bool false,.bool false,.bool false,.bool false,.bool true,.bool false,.bool true,.bool true,.bool false,.bool false,.bool false,.bool true,.bool false,.bool true,.bool false,.bool false,.bool true,.bool false,.bool true,.bool false,.bool false,.bool false,.bool false,.bool false,.bool true,.bool false,.bool false,.bool true,.bool false,.bool false]
def G1:zo:=fun g=>if g=2 then some (zqK.map zA) else none
theorem zqz:G1 2=some [.sc (.bool false),.sc (.bool false),.sc (.bool false),.sc (.bool false),.sc (.bool false),.sc (.bool false),.sc (.bool false),.sc (.bool true),.sc (.bool false),.sc (.bool true),.sc (.bool true),.sc (.bool false),.sc (.bool false),.sc (.bool false),.sc (.bool true),.sc (.bool false),.sc (.bool true),.sc (.bool false),.sc (.bool false),.sc (.bool true),.sc (.bool false),.sc (.bool true),.sc (.bool false),.sc (.bool false),.sc (.bool false),.sc (.bool false),.sc (.bool false),.sc (.bool true),.sc (.bool false),.sc (.bool false),.sc (.bool true),.sc (.bool false),.sc (.bool false)]:=rfl
attribute [push_cast] zqz
def qK (p:Lz):Bool:=Yi p&&!decide (zF p = [])
theorem ML (p:Lz) (hp:p.length<=1000000):Fun Tryz.prog G0 183 [.str p] (qQ (qK p)) 0:=by
 have h:=xn p hp;unfold XD at h;cases hb:Yi p with
 | false =>
  rw[hb]at h;refine fon Tryz.func183 ?_;dsimp only[Tryz.f183];push_cast;refine cl h ?_;push_cast;exact ⟨[],rfl,rfl,by push_cast [ze,zd,CLe,zh];simp[qK,hb]⟩
 | true =>
  rw[hb,if_pos rfl]at h;refine fon Tryz.func183 ?_;dsimp only[Tryz.f183];push_cast;refine cl h ?_;push_cast;refine ⟨[],rfl,rfl,?_⟩;push_cast [ze,zd,CLe,zh];by_cases hn:zF p = []
  ·simp[qK,hb,hn]
  ·have:=WK.2 hn;simp[qK,hb,hn,this]
theorem zcr (l:Lz):Fun Tryz.prog G0 177 [.str l,.str [0]] (.sc (.int .i64 (Lib.indexByte l 0))) 0:=by
 refine Fun.wrap (by kernel_rfl) fun R vs h=>?_;obtain ⟨v1,us1,rfl,h1,h⟩:=zf.1 h;obtain ⟨v2,us2,rfl,h2,h⟩:=zf.1 h;rw[zk]at h;subst h;rw[zU]at h1 h2;subst h1 h2;refine (Tryz.strings_Index_one ⟨l.toArray⟩ 0 R.w).mono ?_;rintro e w' ⟨rfl,rfl⟩;exact ⟨_,rfl,W1 _ _,fun R' _=>zp.2 (by simp)⟩
theorem Gl:∀ l:Lz,decide (0<=Lib.indexByte l 0)=l.any (fun b=>decide (b=0))/\-1<=Lib.indexByte l 0
 | []=>⟨rfl,by decide⟩
 | b :: l=>by
  obtain ⟨h1,h2⟩:=Gl l;unfold Lib.indexByte;by_cases hb:b=0
  ·subst hb;simp
  ·have hb':(b==0)=false:=by simpa using hb
   rw[hb'];simp only[WO,W4,A5,hb,decide_false,O1,←h1];split
   ·rename_i hm;have:=Og.1 hm;rw[this];simp
   ·rename_i hm;have:¬Lib.indexByte l 0 = -1:=fun e=>hm (by rw[e];rfl);constructor
    ·rw[Ba];omega
    ·omega
theorem ZD (l:Lz) (hl:l.length<=1000000):Fun Tryz.prog G0 149 [.str l,.str [0]] (qQ (l.any fun b=>decide (b=0))) 0:=by
 have h:=(Gl l).1;refine fon Tryz.func149 ?_;dsimp only[Tryz.f149];push_cast;refine cl (zcr l) ?_;push_cast;exact dn (by push_cast [ze,zd,CLe,zh,h])
def XZ (s:Lz):Bool:=!decide (s = [])&&decide (s.length<=4095)&&!(s.any fun b=>decide (b=0))
theorem zcE (s:Lz) (hs:s.length<=1000000):Fun Tryz.prog G0 184 [.str s] (qQ (XZ s)) 0:=by
 have h:=ZD s hs;by_cases h1:s = []
 ·refine fon Tryz.func184 ?_;dsimp only[Tryz.f184];push_cast [h1];exact ⟨[],rfl,rfl,by push_cast [ze,zd,CLe,zh];simp[XZ,h1]⟩
 ·by_cases h2:s.length<=4095
  ·have h2':(s.length:Int)<=4095:=by omega
   refine fon Tryz.func184 ?_;dsimp only[Tryz.f184];push_cast [h1,h2'];refine cl h ?_;push_cast;exact ⟨[],rfl,rfl,by push_cast [ze,zd,CLe,zh];simp[XZ,h1,h2]⟩
  ·have h2':¬(s.length:Int)<=4095:=by omega
   refine fon Tryz.func184 ?_;dsimp only[Tryz.f184];push_cast [h1,h2'];exact ⟨[],rfl,rfl,by push_cast [ze,zd,CLe,zh];simp[XZ,h1,h2]⟩
end
end Go.Proofs.YtaipngaejfndgaaGreatDoor.Vcg
section
namespace Go.Proofs.YtaipngaejfndgaaGreatDoor.QuotePlain
abbrev Bs:=Lz
def good (c:UInt8):Bool:=decide (32<=c.toNat/\c.toNat<=126/\c.toNat≠34/\c.toNat≠92)
def zkS:Bs:=[48,49,50,51,52,53,54,55,56,57,97,98,99,100,101,102]
def NB (n:Nat):UInt8:=zkS.getD n 0
def qb (c:UInt8):Bs:=if good c then [c] else [92,120,NB (c.toNat / 16),NB (c.toNat % 16)]
def mid (l:Bs):Bs:=l.flatMap qb
def quoteL (l:Bs):Bs:=34 :: (mid l++[34])
def zoW (l:Bs):Bool:=decide (l≠[])&&l.all fun c=>decide (33<=c.toNat/\c.toNat<=126/\c.toNat≠34)
def zn0 (c:UInt8):Nat:=(zkS.findIdx? (·==c)).getD 16
def ziR:Bs->UInt8×Nat
 | []=>(0,0)
 | c :: r =>
  if c≠92 then (if good c then (c,1) else (0,0))
  else match r with
   | x :: a :: b :: _=>if x=120/\zn0 a<16/\zn0 b<16/\good (UInt8.ofNat (zn0 a*16+zn0 b))=false then (UInt8.ofNat (zn0 a*16+zn0 b),4) else (0,0)
   | _=>(0,0)
theorem zf6 {p:UInt8->Bool} (h:(List.range 256).all (fun n=>p (UInt8.ofNat n))=true) (c:UInt8):p c=true:=by
 have h1:=WA.1 h c.toNat (List.mem_range.2 c.toNat_lt);simpa using h1
def zo5:Nat->Bs->Option (Bs×Nat)
 | 0,_=>none
 | _+1,[]=>none
 | f+1,c :: r=>if c=34 then some ([],1) else if (ziR (c :: r)).2=0 then none else (zo5 f ((c :: r).drop (ziR (c :: r)).2)).map fun x=>((ziR (c :: r)).1 :: x.1,(ziR (c :: r)).2+x.2)
def body (l:Bs):Option (Bs×Nat):=zo5 (l.length+1) l
def qtd:Bs->Option (Bs×Nat)
 | []=>none
 | c :: r=>if c=34 then (body r).map fun x=>(x.1,x.2+1) else none
def unq (l:Bs):Option Bs:=match qtd l with | some (t,n)=>if n=l.length then some t else none | none=>none
end Go.Proofs.YtaipngaejfndgaaGreatDoor.QuotePlain
end
section
namespace Go.Proofs.YtaipngaejfndgaaGreatDoor.QuotePlain
def okw (w:Bs):Bool:=(unq w).isSome||zoW w
def cut:Bs->Bs->Bool->Option (List Bs)
 | [],w,_=>if okw w then some [w] else none
 | c :: r,w,i=>if c=32/\i=false then (if okw w then (cut r [] i).map (w :: ·) else none) else cut r (w++[c]) (if c=34 then !i else i)
end Go.Proofs.YtaipngaejfndgaaGreatDoor.QuotePlain
end
section
namespace Go.Proofs.YtaipngaejfndgaaGreatDoor.QuotePlain
def F (q:List Bs):Bs:=q.flatMap (·++[32])
def bl (Q:List Bs) (n:Nat):Nat->Bs
 | 0=>[]
 | i+1=>((bl Q n i++(if i=n then [32] else []))++Q.getD i [])++(if i+1<Q.length∨n=Q.length then [32] else [])
end Go.Proofs.YtaipngaejfndgaaGreatDoor.QuotePlain
end
namespace Go.Proofs.YtaipngaejfndgaaGreatDoor.Vcg
variable {P:Program} {G:zo} {f:FsV} {args:List C} {r:C} {xs:List zm} {k N:Nat} {W:World} {l:List (Int×Int)} {x:zm} {n i:Int} {α:Type} {S:List Int}
section
structure OpV where
 kind:Int
 slot:Int
 a:Lz
 b:Lz
 d:Lz
deriving DecidableEq,Inhabited
def GW (k:Int):Bool:=decide (k=3)||decide (k=7)||decide (k=9)||decide (k=10)
def zrN (k:Int):Bool:=decide (k=2)||decide (k=3)||decide (k=5)||decide (k=6)
end
section
open CA CB
open Go.RowKit
def opL (o:OpV):List C:=[.sc (.int .i64 o.kind),.sc (.int .i64 o.slot),.str o.a,.str o.b,.str o.d]
def NT (o:OpV):Bool:=decide (1<=o.kind)&&decide (o.kind<=10)&&qK o.a&&(if GW o.kind then decide (1<=o.slot)&&decide (o.slot<=1073741824) else decide (o.slot=0))&&(if zrN o.kind then qK o.b else decide (o.b = []))
 && (if o.kind=4 then XZ o.d else decide (o.d = []))&&(!decide (o.kind=6)||(!QR o.a o.b&&!QR o.b o.a))
def xX (o:OpV):Prop:=o.a.length<=1000000/\o.b.length<=1000000/\o.d.length<=1000000
theorem UV (k s:Int) (a b d:Lz) (hs:xX ⟨k,s,a,b,d⟩):Fun Tryz.prog G1 159 [.agg (opL ⟨k,s,a,b,d⟩)] (qQ (NT ⟨k,s,a,b,d⟩)) 0:=by
 have hs1:a.length<=1000000:=hs.1;have hs2:b.length<=1000000:=hs.2.1;have hs3:d.length<=1000000:=hs.2.2;have h1:=(ML a (by omega)).glob0 (G':=G1);have h2:=(ML b (by omega)).glob0 (G':=G1);have h3:=(zcE d (by omega)).glob0 (G':=G1);have h4:=(HT a b (by omega)).glob0 (G':=G1);have h5:=(HT b a (by omega)).glob0 (G':=G1);unfold opL;by_cases hk1:k<1
 ·have:¬1<=k:=by omega
  refine fon Tryz.func159 ?_;dsimp only[Tryz.f159];push_cast [hk1];exact ⟨[],rfl,rfl,by push_cast [ze,zd,CLe,zh];simp[NT,this]⟩
 by_cases hk2:10<k
 ·have:¬k<=10:=by omega
  refine fon Tryz.func159 ?_;dsimp only[Tryz.f159];push_cast [hk1,hk2];exact ⟨[],rfl,rfl,by push_cast [ze,zd,CLe,zh];simp[NT,this]⟩
 cases hp:qK a with
 | false =>
  rw[hp]at h1;refine fon Tryz.func159 ?_;dsimp only[Tryz.f159];push_cast [hk1,hk2];refine cl h1 ?_;push_cast;exact ⟨[],rfl,rfl,by push_cast [ze,zd,CLe,zh];simp[NT,hp]⟩
 | true =>
  rw[hp]at h1;have hk:k=1∨k=2∨k=3∨k=4∨k=5∨k=6∨k=7∨k=8∨k=9∨k=10:=by omega
  clear hk1 hk2 hs hs1 hs2 hs3;rcases hk with rfl | rfl | rfl | rfl | rfl | rfl | rfl | rfl | rfl | rfl
  all_goals
   refine fon Tryz.func159 ?_;dsimp only[Tryz.f159];push_cast;refine cl h1 ?_;push_cast
   repeat' (first
    | (refine call h2 ?_;push_cast)
    | (refine zcD h2 ?_;push_cast)
    | (refine call h3 ?_;push_cast)
    | (refine zcD h3 ?_;push_cast)
    | (refine call h4 ?_;push_cast)
    | (refine zcD h4 ?_;push_cast)
    | (refine call h5 ?_;push_cast)
    | (refine zcD h5 ?_;push_cast)
    | (refine br (fun h=>?_) (fun h=>?_)<;>push_cast [h])
    | (refine ⟨[],rfl,rfl,?_⟩;push_cast [ze,zd,CLe,zh];clear h1 h2 h3 h4 h5;simp_all [NT,GW,zrN]<;>omega))
end
section
structure zR where
 dir:Int
 name:Lz
 ino:Int
deriving DecidableEq,Inhabited
structure zS where
 slot:Int
 ino:Int
 content:Bool
 data:Lz
deriving DecidableEq,Inhabited
structure qC where
 fs:FsV
 kept:List zS
 pool:List zm
deriving DecidableEq,Inhabited
def jh:zR:=⟨0,[],0⟩
def zl4:zS:=⟨0,0,false,[]⟩
abbrev JI (es:List zX):Prop:=qN Jp zX.name es
def QW (n:Lz) (es:List zX):Bool:=YV zX.name n es
def qg (n:Lz) (es:List zX):Int:=match Jk zX.name n es with | some e=>e.ino | none=>0
def zj (n:Lz) (es:List zX):List zX:=XO zX.name n es
def zT (n:Lz) (i:Int) (es:List zX):List zX:=Uf Jp zX.name ⟨n,i⟩ (XO zX.name n es)
def atW (xs:List zm):List Lz->zR->zR×Int
 | [],s=>(s,0)
 | n :: r,s=>if s.ino=0 then (jh,1) else if (zg s.ino xs).kind≠2 then (jh,3) else atW xs r ⟨(zg s.ino xs).ino,n,qg n (zg s.ino xs).es⟩
def atV (f:FsV) (p:Lz):zR×Int:=if Yi p then atW f.xs (zF p) ⟨0,[],1⟩ else (jh,9)
def J7 (f:FsV) (n b:Int):Bool:=decide (f.xs.length+n<=f.maxI)&&decide (z7 f.xs+b<=f.maxB)
def qn (d:Int) (es:List zX->List zX) (xs:List zm):List zm:=qp { zg d xs with es:=es (zg d xs).es } xs
def NS (f:FsV) (s:zR) (k:Int) (t:Lz):FsV:={ f with next:=f.next+1,xs:=qp ⟨f.next,k,1,t,if k=2 then s.dir else 0,[]⟩ (qn s.dir (zT s.name f.next) f.xs) }
def Hc (f:FsV) (s:zR) (k:Int) (t:Lz):FsV×Int:=
 if may s.name then (if J7 f 1 (if k=1 then (t.length:Int) else 0) then (NS f s k t,0) else (f,8)) else (f,9)
def zH (f:FsV) (s:zR):FsV:=
 if (zg s.ino f.xs).links-1=0 then { f with xs:=qd s.ino (qn s.dir (zj s.name) f.xs) }
 else { f with xs:=qp { zg s.ino f.xs with links:=(zg s.ino f.xs).links-1 } (qn s.dir (zj s.name) f.xs) }
def Zq (f:FsV) (s:zR) (i:Int):FsV:={ f with xs:=qp { zg i f.xs with links:=(zg i f.xs).links+1 } (qn s.dir (zT s.name i) f.xs) }
def QL (f:FsV) (a b:zR):FsV:=
 let g:=qn b.dir (zT b.name a.ino) (qn a.dir (zj a.name) f.xs)
 if (zg a.ino g).kind=2 then { f with xs:=qp { zg a.ino g with parent:=b.dir } g } else { f with xs:=g }
def XP (f:FsV) (i:Int) (t:Lz):FsV:={ f with xs:=qp { zg i f.xs with data:=t } f.xs }
def U2 (f:FsV) (i:Int) (t:Lz):FsV×Int:=
 if J7 f 0 ((t.length:Int)-(zg i f.xs).data.length) then (XP f i t,0) else (f,8)
def zak (n:Int) (ks:List zS):Bool:=YV zS.slot n ks
def qH (k:zS) (ks:List zS):List zS:=Uf Jh zS.slot k ks
def Xm (w:qC) (n:Int) (s:zR):qC×Int:=
 if zak n w.kept then (w,13)
 else (⟨zH w.fs s,qH ⟨n,s.ino,false,[]⟩ w.kept,if (zg s.ino w.fs.xs).links=1 then qp { zg s.ino w.fs.xs with links:=0,parent:=0 } w.pool else w.pool⟩,0)
def JE (w:qC) (n i:Int):qC×Int:=
 if zak n w.kept then (w,13) else ({ w with kept:=qH ⟨n,i,true,(zg i w.fs.xs).data⟩ w.kept },0)
def isV (f:FsV) (p:Lz) (want:Bool):zR×zm×Int:=
 let a:=atV f p
 (a.1,zg a.1.ino f.xs,if a.2≠0 then a.2 else if want&&!zl a.1.ino f.xs then 1 else if !want&&zl a.1.ino f.xs then 2 else 0)
def jl (f:FsV) (p:Lz):zm×Int:=
 let a:=isV f p true
 (a.2.1,if a.2.2≠0 then a.2.2 else if a.2.1.kind=2 then 4 else if a.2.1.kind=3 then 9 else 0)
def Yo (w:qC) (p:Lz) (k:Int) (t:Lz):qC×Int:=
 if (isV w.fs p false).2.2≠0 then (w,(isV w.fs p false).2.2) else ({ w with fs:=(Hc w.fs (isV w.fs p false).1 k t).1 },(Hc w.fs (isV w.fs p false).1 k t).2)
def VF (w:qC) (o:OpV):qC×Int:=
 if (jl w.fs o.a).2≠0 then (w,(jl w.fs o.a).2) else Yo w o.b 1 (jl w.fs o.a).1.data
def Qx (w:qC) (o:OpV):qC×Int:=
 if (jl w.fs o.a).2≠0 then (w,(jl w.fs o.a).2)
 else if (jl w.fs o.b).2≠0 then (w,(jl w.fs o.b).2)
 else if (jl w.fs o.a).1.ino=(jl w.fs o.b).1.ino then (w,9)
 else if (JE w o.slot (jl w.fs o.b).1.ino).2≠0 then (w,(JE w o.slot (jl w.fs o.b).1.ino).2)
 else if (U2 w.fs (jl w.fs o.b).1.ino (jl w.fs o.a).1.data).2≠0 then (w,(U2 w.fs (jl w.fs o.b).1.ino (jl w.fs o.a).1.data).2)
 else ({ (JE w o.slot (jl w.fs o.b).1.ino).1 with fs:=(U2 w.fs (jl w.fs o.b).1.ino (jl w.fs o.a).1.data).1 },0)
def jL (w:qC) (o:OpV):qC×Int:=
 let a:=isV w.fs o.a true
 if a.2.2≠0 then (w,a.2.2) else if a.2.1.kind=2 then (w,11)
 else if (isV w.fs o.b false).2.2≠0 then (w,(isV w.fs o.b false).2.2)
 else ({ w with fs:=Zq w.fs (isV w.fs o.b false).1 a.2.1.ino },0)
def H9 (w:qC) (o:OpV):qC×Int:=
 if (isV w.fs o.a true).2.2≠0 then (w,(isV w.fs o.a true).2.2)
 else if (isV w.fs o.b false).2.2≠0 then (w,(isV w.fs o.b false).2.2)
 else ({ w with fs:=QL w.fs (isV w.fs o.a true).1 (isV w.fs o.b false).1 },0)
def qV (w:qC) (o:OpV):qC×Int:=
 let a:=isV w.fs o.a true
 if a.2.2≠0 then (w,a.2.2) else if a.2.1.es≠[] then (w,5) else Xm w o.slot a.1
def doV (w:qC) (o:OpV):qC×Int:=
 if !NT o then (w,12)
 else if o.kind=1 then Yo w o.a 2 []
 else if o.kind=2 then VF w o
 else if o.kind=3 then Qx w o
 else if o.kind=4 then Yo w o.a 3 o.d
 else if o.kind=5 then jL w o
 else if o.kind=6 then H9 w o
 else qV w o
def Jg (ks:List zS):Int:=match ks.getLast? with | some k=>k.slot | none=>0
structure qh where
 w:qC
 ops:List OpV
 diags:List Lz
 status:Int
 slot:Int
deriving DecidableEq,Inhabited
def xF (w:qC):qh:=⟨w,[],[],0,Jg w.kept⟩
def Zi (d:qh) (o:OpV):OpV:={ o with slot:=if o.kind=3∨o.kind=7 then d.slot+1 else 0 }
def JU (d:qh) (o:OpV):qh×Int:=
 if 7<o.kind then (d,12)
 else if (doV d.w (Zi d o)).2≠0 then (d,(doV d.w (Zi d o)).2)
 else (⟨(doV d.w (Zi d o)).1,d.ops++[Zi d o],d.diags,d.status,if 0<(Zi d o).slot then (Zi d o).slot else d.slot⟩,0)
end
variable {w:qC} {ks:List zS}
section
open CA CB
open Go.RowKit
theorem zbB (a b:Lz):Fun Tryz.prog G0 221 [.str a,.str b] (.sc (.int .i64 (Lib.compareBytes a b))) 0:=by
 refine Fun.wrap (by kernel_rfl) fun R vs h=>?_;obtain ⟨v1,us1,rfl,h1,h⟩:=zf.1 h;obtain ⟨v2,us2,rfl,h2,h⟩:=zf.1 h;rw[zk]at h;subst h;rw[zU]at h1 h2;subst h1 h2;refine (Tryz.strings_Compare ⟨a.toArray⟩ ⟨b.toArray⟩ R.w).mono ?_;rintro e w' ⟨rfl,rfl⟩;exact ⟨_,rfl,W1 _ _,fun R' _=>zp.2 (by simp)⟩
section
variable {G:zo}
theorem u6 (e:zX) (n:Lz):Fun Tryz.prog G 220 [.agg (GA e),.str n] (.sc (.int .i64 (Lib.compareBytes e.name n))) 0:=by
 have h:=(zbB e.name n).glob0 (G':=G);refine fon Tryz.func220 ?_;dsimp only[Tryz.f220];push_cast;refine cl h ?_;push_cast;exact dn
theorem MB (es:List zX) (n:Lz) (hl:es.length<=100000) (hR:qN Jp zX.name es) :
  Fun Tryz.prog G 219 [.sl 2 (zN es),.str n,.clo (.func 220) [] []] (.tup [.sc (.int .i64 (qo Jp zX.name n es:Nat)),.sc (.bool (YV zX.name n es))]) 0:=by
 refine fon Tryz.func219 ?_;dsimp only[Tryz.f219];push_cast;refine loop (fun p:Nat×Nat=>⟨[(0,.sl 2 (zN es)),(1,.str n),(2,.clo (.func 220) [] []),(8,.sc (.int .i64 (es.length:Nat))),(9,.sc (.int .i64 p.1)),(10,.sc (.int .i64 p.2))],[],0,0⟩)
  (fun p=>p.1<=p.2/\p.2<=es.length/\(∀ t (h:t<es.length),t<p.1->(Jp).lt (zX.name es[t]) n=true)/\∀ t (h:t<es.length),p.2<=t->(Jp).lt (zX.name es[t]) n=false) (fun p=>p.2-p.1) (0,es.length) ⟨Wc _,Wb _,fun t _ h=>by (simp at h),fun t h h'=>by (dsimp only at h';omega)⟩ ?_ ?_
 ·exact wk (by push_cast [ze,zd,CLe,zh,We])
 ·rintro ⟨i,j⟩ ⟨h1,h2,h3,h4⟩;dsimp only at h1 h2 h3 h4 ⊢;by_cases h:i<j
  ·obtain ⟨m,hm⟩:∃ m,m=(i+j) / 2:=⟨_,rfl⟩;have hmi:((i:Int)+(j:Int)) / 2=(m:Int):=by omega
   have hml:m<es.length:=by omega
   have hat:=JN es m hml;have hlt:=(zgD es[m].name n).to_iff;push_cast [h,hmi,hat]
   repeat refine an ?_
   refine cl ((u6 es[m] n)) ?_;push_cast;cases hc:(Jp).lt (zX.name es[m]) n with
   | true =>
    have hcv:(Lib.compareBytes es[m].name n<0)=True:=eq_true (hlt.mpr hc);push_cast [hcv]
    repeat refine an ?_
    refine ⟨(m+1,j),⟨by omega,h2,fun t ht hlt2=>?_,h4⟩,by dsimp only;omega,wk⟩;dsimp only at hlt2;rcases Wr t m with q | q
    ·exact (Jp).tr ((WU.1 hR) t m ht hml q) hc
    ·have:t=m:=by omega
     subst this;exact hc
   | false =>
    have hcv:(Lib.compareBytes es[m].name n<0)=False:=WR (fun e=>by have h7:(Jp).lt (zX.name es[m]) n=true:=hlt.mp e;rw[hc]at h7;cases h7);push_cast [hcv]
    repeat refine an ?_
    refine ⟨(i,m),⟨by omega,by omega,h3,fun t ht hge=>?_⟩,by dsimp only;omega,wk⟩;dsimp only at hge;rcases Wr m t with q | q
    ·cases h9:(Jp).lt (zX.name es[t]) n with
     | false=>rfl
     | true=>have:=(Jp).tr ((WU.1 hR) m t hml ht q) h9;rw[hc]at this;cases this
    ·have:t=m:=by omega
     subst this;exact hc
  ·have hij:i=j:=by omega
   subst hij;have hrk:=ZY (o:=Jp) (key:=zX.name) n es i h2 h3 h4;push_cast [h];refine br (fun hx=>?_) (fun hx=>?_)
   ·have hx:i<es.length:=by simpa using hx
    have hat:=JN es i hx;have hh:=yr n hR hrk hx;push_cast [hx,hat]
    repeat refine an ?_
    refine cl ((u6 es[i] n)) ?_;push_cast;have hcv:decide (Lib.compareBytes es[i].name n=0)=YV zX.name n es:=by
     rw[hh];exact Ba.2 (zgs es[i].name n).to_iff
    push_cast [hcv];exact dn (by push_cast [ze,zd,CLe,zh,hrk])
   ·have hx:¬i<es.length:=by simpa using hx
    have hh:=GH n hR (by omega);push_cast [hx];exact dn (by push_cast [ze,zd,CLe,zh,hrk,hh])
theorem y8 (es:List zX) (n:Lz) (hl:es.length<=100000) (hR:JI es):Fun Tryz.prog G 179 [.sl 2 (zN es),.str n] (.tup [.sc (.int .i64 (qo Jp zX.name n es:Nat)),.sc (.bool (YV zX.name n es))]) 0:=by
 refine fon Tryz.func179 ?_;dsimp only[Tryz.f179];push_cast;refine cl (MB es n hl hR) ?_;push_cast;exact dn
theorem Mp (es:List zX) (n:Lz) (hl:es.length<=100000) (hR:JI es):Fun Tryz.prog G 151 [.sl 2 (zN es),.str n] (.tup [.sc (.int .i64 (qg n es)),.sc (.bool (QW n es))]) 0:=by
 obtain ⟨_,_,h3,h4⟩:=Ug n hR;have h:=y8 (G:=G) es n hl hR;cases hh:YV zX.name n es with
 | false =>
  have hf:qg n es=0:=by unfold qg;rw[(h4 hh).1]
  have he:QW n es=false:=hh;rw[hh]at h;refine fon Tryz.func151 ?_;dsimp only[Tryz.f151];push_cast;refine cl h ?_;push_cast;exact dn (by push_cast [ze,zd,CLe,zh,hf,he])
 | true =>
  obtain ⟨hlt,_,g2,_⟩:=h3 hh;have hf:qg n es=es[qo Jp zX.name n es].ino:=by unfold qg;rw[g2]
  have he:QW n es=true:=hh;have hat:=JN es _ hlt;rw[hh]at h;refine fon Tryz.func151 ?_;dsimp only[Tryz.f151];push_cast;refine cl h ?_;push_cast [hat]
  repeat refine an ?_
  exact dn (by push_cast [ze,zd,CLe,zh,hf,he])
end
end
section
open CA CB
open Go.RowKit
section
variable {G:zo}
theorem jf {es:List zX}:∀ r∈zN es,r.length=2:=fun r hr=>by
 obtain ⟨x,_,rfl⟩:=WT.1 hr;rfl
theorem ji {es:List zX}:jn (zN es):=fun r hr=>by
 obtain ⟨x,_,rfl⟩:=WT.1 hr;rfl
theorem uF {c i:Nat} {rows:List (List C)} (hk:∀ r∈rows,r.length=k) (hi:i<=rows.length):(qw k rows c).take (i*k)=(rows.take i).flatten:=by
 have hf:=qr hk;have h1:i*k<=rows.length*k:=WP _ hi;unfold qw;rw[OO (by omega),Zv hk]
theorem zkt {es:List zX} {c r:Nat} (hr:r<es.length) :
  (qw 2 (zN es) c).take (r*2+1)++[C.sc (.int .i64 i)]++(qw 2 (zN es) c).drop (r*2+1+1)=qw 2 (zN (es.set r ⟨es[r].name,i⟩)) c:=by
 have hll:(zN es).length=es.length:=We ..;have h:=za0 (c:=c) (row:=GA ⟨es[r].name,i⟩) (i:=r) jf rfl (show r<(zN es).length by omega);have e1:(zN es).set r (GA ⟨es[r].name,i⟩)=zN (es.set r ⟨es[r].name,i⟩):=by simp[List.map_set]
 rw[e1]at h;rw[←h];have t0:=uF (c:=c) (i:=r) (jf (es:=es)) (by omega);have t1:=uF (c:=c) (i:=r+1) (jf (es:=es)) (by omega);have e2:((zN es).take (r+1)).flatten=((zN es).take r).flatten++GA es[r]:=by
  rw[WX,JN es r hr];simp
 have e3:(qw 2 (zN es) c).take (r*2+1)=(qw 2 (zN es) c).take (r*2)++[C.str es[r].name]:=by
  have e4:(qw 2 (zN es) c).take (r*2+1)=((qw 2 (zN es) c).take ((r+1)*2)).take (r*2+1):=by rw[BW,OH (by omega)]
  have hl0:((zN es).take r).flatten.length=r*2:=by
   rw[qr (k:=2) fun x hx=>jf x (Wu hx),W5,hll,OH (by omega)]
  rw[e4,t1,e2,t0,AI,hl0,Wg (by omega),show r*2+1-r*2=1 by omega]
  rfl
 rw[e3];simp
theorem xk (es:List zX) (n:Lz) (i:Int) (hl:es.length<=90000) (hR:JI es) :
  Fun Tryz.prog G 257 [.sl 2 (zN es),.str n,.sc (.int .i64 i)] (.own 0 141 2 (zN (zT n i es))) 1:=by
 obtain ⟨_,_,h3,h4⟩:=Ug n hR;have hll:(zN es).length=es.length:=We ..;have hat:=y8 (G:=G) es n (by omega) hR;have hrl:=ZM (o:=Jp) (key:=zX.name) n es;refine foF (fun _=>[]) Tryz.func257 ?_;dsimp only[Tryz.f257];push_cast;refine cl hat ?_;push_cast;refine jT [] [] (zdf (zN es) jf ji (by omega)) rfl (by decide) (by decide) (by simp) (by push_cast) (by push_cast) (fun r bx' m hp=>?_);obtain ⟨rfl,⟨hne,c,h1,h2,rfl,rfl⟩ | ⟨he,⟨rfl,rfl⟩ | ⟨rfl,rfl⟩⟩⟩:=hp
 ·have hbl:=JB jf h1;have hre:∀ fp fo,C.reL fp fo (qw 2 (zN es) c)=qw 2 (zN es) c:=fun fp fo=>zB (zD ji);have hpos:=WK.2 hne;cases hh:YV zX.name n es with
  | true =>
   obtain ⟨hlt,g1,g2,g3,g4⟩:=h3 hh;have hset:zT n i es=es.set (qo Jp zX.name n es) ⟨n,i⟩:=g4 ⟨n,i⟩ rfl;have hbs:=zkt (c:=c) (i:=i) hlt;rw[g1,←hset]at hbs;have hwl:(zT n i es).length=es.length:=by rw[hset,Bo]
   push_cast [hh,hre];rw[hbs];refine ⟨by omega,by omega,by rw[hbl];omega,[(1,141,2,zN (zT n i es),c)],[.inl 0],zy rfl (by omega) (by rw[We,hwl];omega) h2 jf ji,rfl,rfl,?_⟩;rw[hll,←hwl];push_cast [ze,zd,CLe,zh,show (zN (zT n i es)).length=(zT n i es).length from We ..]
  | false =>
   have hw:zT n i es=es.take (qo Jp zX.name n es)++⟨n,i⟩ :: es.drop (qo Jp zX.name n es):=by
    unfold zT;rw[(h4 hh).2.1];exact (h4 hh).2.2 ⟨n,i⟩ rfl
   have hset:zN (zT n i es)=(zN es).take (qo Jp zX.name n es)++GA ⟨n,i⟩ :: (zN es).drop (qo Jp zX.name n es):=by rw[hw];simp
   have hsl:(zN (zT n i es)).length=(zN es).length+1:=by rw[hset];simp;omega
   push_cast [hh,hre];refine jT [1] [0] (zaR (e:=141) (zN es) (GA ⟨n,i⟩) (qo Jp zX.name n es) c jf rfl ji rfl (by omega) (by omega) h1 h2) rfl (by decide) (by decide) (by simp) (by push_cast) (by push_cast [hre]) (fun r bx' m hp=>?_);rw[←hset]at hp;have hre2:∀ fp fo c,C.reL fp fo (qw 2 (zN (zT n i es)) c)=qw 2 (zN (zT n i es)) c:=fun fp fo c=>zB (zD ji);obtain ⟨rfl,c',g1,g2,⟨rfl,rfl⟩ | ⟨rfl,rfl⟩⟩:=hp
   ·push_cast [hre2,hre];exact ⟨[(1,141,2,zN (zT n i es),c')],[.inl 1],zy rfl (by omega) g1 g2 jf ji,rfl,rfl,by push_cast [ze,zd,CLe,zh]⟩
   ·have hra:∀ fp fo,C.reL fp fo (List.replicate (c*2) .any)=List.replicate (c*2) .any:=fun fp fo=>zB (by simp[OK,C.stayB]);push_cast [hre2,hre,hra];exact ⟨[(2,141,2,zN (zT n i es),c')],[.inl 1],zy rfl (by omega) g1 g2 jf ji,rfl,rfl,by push_cast [ze,zd,CLe,zh]⟩
 ·have he:es = []:=by simpa using he
  have hh:YV zX.name n es=false:=by rw[he];rfl
  have hr0:qo Jp zX.name n es=0:=by rw[he];rfl
  have hset:zT n i es = [⟨n,i⟩]:=by rw[he];rfl
  push_cast [hh,hr0];refine jT [] [0] (zjV (e:=141) (GA ⟨n,i⟩) rfl rfl) rfl (by decide) (by decide) (by simp) (by push_cast) (by push_cast) (fun r bx' m hp=>?_);obtain ⟨rfl,c,g1,g2,rfl,rfl⟩:=hp;have hre:∀ fp fo,C.reL fp fo (qw 2 [GA ⟨n,i⟩] c)=qw 2 [GA ⟨n,i⟩] c:=fun fp fo=>zB (zD (ji (es:=[⟨n,i⟩])));push_cast [hre];exact ⟨[(0,141,2,zN [⟨n,i⟩],c)],[.inl 1],zy rfl (by omega) g1 g2 jf ji,rfl,rfl,by push_cast [ze,zd,CLe,zh,hset]⟩
 ·have he:es = []:=by simpa using he
  have hh:YV zX.name n es=false:=by rw[he];rfl
  have hr0:qo Jp zX.name n es=0:=by rw[he];rfl
  have hset:zT n i es = [⟨n,i⟩]:=by rw[he];rfl
  push_cast [hh,hr0];refine jT [0] [0] (zaR (e:=141) [] (GA ⟨n,i⟩) 0 0 (fun r hr=>by cases hr) rfl (fun r hr=>by cases hr) rfl (by simp) (by simp) (by simp) (by simp)) rfl (by decide) (by decide) (by simp) (by push_cast) (by push_cast [qw]) (fun r bx' m hp=>?_);obtain ⟨rfl,c,g1,g2,hp⟩:=hp;have hre:∀ fp fo,C.reL fp fo (qw 2 [GA ⟨n,i⟩] c)=qw 2 [GA ⟨n,i⟩] c:=fun fp fo=>zB (zD (ji (es:=[⟨n,i⟩])));rcases hp with ⟨rfl,rfl⟩ | ⟨rfl,rfl⟩
  ·push_cast [hre];exact ⟨[(0,141,2,zN [⟨n,i⟩],c)],[.inl 1],zy rfl (WI (AT _) g1) g1 g2 jf ji,rfl,rfl,by push_cast [ze,zd,CLe,zh,hset]⟩
  ·push_cast [hre];exact ⟨[(1,141,2,zN [⟨n,i⟩],c)],[.inl 1],zy rfl (WI (AT _) g1) g1 g2 jf ji,rfl,rfl,by push_cast [ze,zd,CLe,zh,hset]⟩
end
end
section
open CA CB
open Go.RowKit
section
variable {G:zo}
theorem znA {A B Z:List C} {r:Nat} (hA:A.length=r*2) (hB:B.length=(k-r)*2) (hZ:Z.length=k*2) (hr:r<=k):spl (A++Z.drop (r*2)) (r*2) (B.take ((k-r)*2))=A++B:=by
 unfold spl;rw[Wg (l:=B) (by omega),OO (by omega),Wg (l:=A) (by omega),OR (l:=A++Z.drop (r*2)) (by rw[Wq,WZ];omega),Of]
theorem xA (es:List zX) (n:Lz) (hl:es.length<=90000) (hR:JI es) (hh:YV zX.name n es=true) :
  Fun Tryz.prog G 259 [.sl 2 (zN es),.str n] (.own 0 141 2 (zN (zj n es))) 1:=by
 obtain ⟨_,_,h3,h4⟩:=Ug n hR;have hll:(zN es).length=es.length:=We ..;have hat:=y8 (G:=G) es n (by omega) hR;have hrl:=ZM (o:=Jp) (key:=zX.name) n es;rw[hh]at hat;obtain ⟨hlt,g1,g2,g3,g4⟩:=h3 hh;have hw:zj n es=es.take (qo Jp zX.name n es)++es.drop (qo Jp zX.name n es+1):=g3;obtain ⟨k,hk⟩:∃ k,es.length=k+1:=⟨es.length-1,by omega⟩;have hkc:(zN es).length=k+1:=by omega
 have hn:((zN es).length:Int)-1=(k:Int):=by omega
 have hwl:(zj n es).length=k:=by rw[hw];simp;omega
 generalize qo Jp zX.name n es=r at *;have hm:min r k=r:=by omega
 rcases O4 k with h1 | h1
 ·subst h1;obtain rfl:r=0:=by omega
  have hn:((zN es).length:Int)-1=0:=hn;have hwe:zj n es = []:=Aq.1 hwl;refine fof (fun i=>if i=5 then NO [(0,.pure),(1,.pure),(2,.pure),(3,.pure),(4,.pure),(7,.pure),(8,.pure),(9,.pure),(10,.pure),(5,.flt [0,5,6,7,8]),(6,.pure),(11,.bar)] else []) Tryz.func259 ?_;dsimp only[Tryz.f259];push_cast;refine cl hat ?_;push_cast [hn,Int.toNat_zero];refine ⟨by omega,by omega,zqQ (m:=0) (xs:=[]) QU Yf rfl rfl (fun _ _ _ _ _ h=>by cases h) rfl ?_⟩;push_cast;have hd:(zN es).drop 1 = []:=OR (by omega);rw[hd];refine ⟨⟨by split<;>first | omega | trivial,by split<;>first | omega | trivial⟩,zqQ (m:=0) (xs:=[]) QU Yf rfl rfl (fun _ _ _ _ _ h=>by cases h) rfl ?_⟩;push_cast;exact ⟨[.inl 0],rfl,rfl,by push_cast [ze,zd,CLe,zh,hwe]⟩
 ·refine foF (fun i=>if i=5 then NO [(0,.pure),(1,.pure),(2,.pure),(3,.pure),(4,.pure),(7,.pure),(8,.pure),(9,.pure),(10,.pure),(5,.flt [0,5,6,7,8]),(6,.pure),(11,.bar)] else if i=1000000+94 then [true,true] else []) Tryz.func259 ?_;dsimp only[Tryz.f259];push_cast;refine cl hat ?_;push_cast [hn,O0];have hA:((zN es).take r).flatten.length=r*2:=by
   rw[qr (k:=2) fun x hx=>jf x (Wu hx),W5,hkc,OH (by omega)]
  have hB:((zN es).drop (r+1)).flatten.length=(k-r)*2:=by
   rw[qr (k:=2) fun x hx=>jf x (WS hx),WZ,hkc];omega
  have hZ:((List.replicate k [C.str [],C.sc (.int .i64 0)]).flatten).length=k*2:=by simp
  refine ⟨⟨by omega,by omega⟩,by omega,by omega,by omega,by omega,⟨by omega,by omega⟩,⟨by omega,by omega⟩,⟨by omega,by omega⟩,zmK (m:=r) (xs:=((zN es).take r).flatten) QU Yf (by simp[C.xs?,C.rows?,hkc];omega) rfl hA (by rw[hZ];omega) ?_⟩;rw[hm];push_cast;have hS:spl (List.replicate k [C.str [],C.sc (.int .i64 0)]).flatten 0 (((zN es).take r).flatten.take (r*2))=((zN es).take r).flatten++((List.replicate k [C.str [],C.sc (.int .i64 0)]).flatten).drop (r*2):=by
   unfold spl;rw[OD,Ox,Ot,Wg (by omega),hA]
  have hm2:min (k-r) (k-r)=k-r:=Nat.min_self _;rw[hS];refine ⟨⟨by split<;>first | exact ⟨by omega,by omega⟩ | trivial,by split<;>first | exact ⟨by omega,by omega⟩ | trivial,by split<;>first | exact ⟨by omega,by omega⟩ | trivial⟩,Wb _,⟨by omega,by omega⟩,zmK (m:=k-r) (xs:=((zN es).drop (r+1)).flatten) QU Yf (by simp[C.xs?,C.rows?,hkc]) rfl hB (by rw[Wq,WZ,hA,hZ];omega) ?_⟩;rw[hm2];push_cast;have hwc:(zN (zj n es)).length=k:=(We ..).trans hwl;have hF:spl (((zN es).take r).flatten++((List.replicate k [C.str [],C.sc (.int .i64 0)]).flatten).drop (r*2)) (r*2) (((zN es).drop (r+1)).flatten.take ((k-r)*2))=qw 2 (zN (zj n es)) k:=by
   rw[znA hA hB hZ (by omega)];unfold qw;rw[hwc,Nat.sub_self,Nat.zero_mul,hw];simp
  rw[hF];refine ⟨[(0,141,2,zN (zj n es),k)],[.inl 0],zy rfl h1 (by omega) (by omega) jf ji,rfl,rfl,?_⟩;push_cast [ze,zd,CLe,zh,hwc]
end
end
section
theorem Z4 (n:Int) (xs:List zm):zl n xs=(X3 n xs).isSome:=by
 unfold zl X3
 induction xs with
 | nil=>rfl
 | cons y r ih =>
  rw[A5,AA];cases h:(y.ino==n) with
  | true=>rfl
  | false=>rw[O1,ih]
theorem zaz (h:X3 n xs=some x):x.ino=n/\x∈xs:=by
 unfold X3 at h;have h1:=List.find?_some h;exact ⟨by simpa using h1,Bg h⟩
theorem zaX (n:Int) (x:zm):∀ xs:List zm,(∀ z∈xs,z.ino≠x.ino)->X3 n (ZC x xs)=if x.ino=n then some x else X3 n xs
 | [],_=>by
  unfold ZC X3;by_cases h:x.ino=n<;>simp[h]
 | y :: r,hn=>by
  have hy:=hn y Wj;have ih:=zaX n x r fun z hz=>hn z (Wk _ hz);unfold X3 at ih ⊢;unfold ZC;split
  ·by_cases h:x.ino=n
   ·simp[h]
   ·simp[h,AA]
  ·by_cases h:x.ino=n
   ·rw[if_pos h]at ih ⊢;have hyn:(y.ino==n)=false:=by simp;omega
    rw[AA,hyn];exact ih
   ·rw[if_neg h]at ih ⊢;rw[AA,AA,ih]
theorem ZG (n m:Int):∀ xs:List zm,X3 n (qd m xs)=if n=m then none else X3 n xs
 | []=>by unfold X3 qd;simp
 | y :: r=>by
  have ih:=ZG n m r;by_cases hy:y.ino=m
  ·rw[JG hy,ih];by_cases h:n=m
   ·rw[if_pos h,if_pos h]
   ·rw[if_neg h,if_neg h];have hyn:(y.ino==n)=false:=by simp;omega
    unfold X3;rw[AA,hyn]
  ·rw[JL hy];unfold X3 at ih ⊢;rw[AA,AA,ih];by_cases h:n=m
   ·have hyn:(y.ino==n)=false:=by simp;omega
    simp only[hyn,if_pos h]
   ·simp only[if_neg h]
theorem zlj:∀ z∈qd n xs,z.ino≠n:=fun z hz=>by
 unfold qd at hz;simpa using (Oy.1 hz).2
theorem zaK (n:Int) (x:zm) (xs:List zm):X3 n (qp x xs)=if x.ino=n then some x else X3 n xs:=by
 unfold qp;rw[zaX n x _ zlj,ZG];by_cases h:x.ino=n
 ·rw[if_pos h,if_pos h]
 ·rw[if_neg h,if_neg h,if_neg (fun e=>h e.symm)]
theorem qT (n:Int) (x:zm) (xs:List zm):zl n (qp x xs)=(decide (x.ino=n)||zl n xs):=by
 rw[Z4,zaK,Z4];by_cases h:x.ino=n<;>simp[h]
theorem X0 (n m:Int) (xs:List zm):zl n (qd m xs)=(!decide (n=m)&&zl n xs):=by
 rw[Z4,ZG,Z4];by_cases h:n=m<;>simp[h]
theorem zmB:∀ {x:zm},zZ xs->(x∈xs↔X3 x.ino xs=some x):=by
 induction xs with
 | nil=>intro x _;simp[X3]
 | cons y r ih =>
  intro x hR;obtain ⟨h1,h2⟩:=Jb.1 hR;constructor
  ·intro hx;rcases WH.1 hx with rfl | hx
   ·unfold X3;rw[BA (by simp)]
   ·have:=h1 x hx;unfold X3;rw[Bz (by simp;omega)];exact (ih h2).1 hx
  ·intro h;exact (zaz h).2
def NZ (g:zm->Nat) (xs:List zm):Nat:=(xs.map g).sum
theorem Zn (g:zm->Nat) {n:Int}:∀ {xs:List zm},zZ xs->NZ g xs=NZ g (qd n xs)+(match X3 n xs with | some x=>g x | none=>0)
 | [],_=>rfl
 | y :: r,hR=>by
  obtain ⟨h1,h2⟩:=Jb.1 hR;have ih:=Zn g (n:=n) h2;unfold NZ at ih ⊢;by_cases hy:y.ino=n
  ·have hb:zl n r=false:=UE fun z hz=>by have:=h1 z hz;omega
   have hg:X3 n (y :: r)=some y:=by unfold X3;rw[BA (by simpa using hy)]
   rw[hg,JG hy,ZX hb];simp;omega
  ·have hg:X3 n (y :: r)=X3 n r:=by unfold X3;rw[Bz (by simpa using hy)]
   rw[hg,JL hy];simp only[Wp,OT];omega
theorem za9 (g:zm->Nat) (x:zm):∀ xs:List zm,NZ g (ZC x xs)=NZ g xs+g x
 | []=>by unfold ZC NZ;simp
 | y :: r=>by
  have ih:=za9 g x r;unfold NZ at ih ⊢;unfold ZC;split
  ·simp;omega
  ·simp only[Wp,OT];omega
theorem Ut (g:zm->Nat) {x:zm} {xs:List zm} (hR:zZ xs):NZ g (qp x xs)+(match X3 x.ino xs with | some y=>g y | none=>0)=NZ g xs+g x:=by
 unfold qp;rw[za9,Zn g (n:=x.ino) hR];omega
end
section
def JY (n:Int) (x:zm):Nat:=(x.es.filter fun e=>decide (e.ino=n)).length
def JR (n:Int) (xs:List zm):Nat:=NZ (JY n) xs
structure FsI (f:FsV):Prop where
 rises:zZ f.xs
 ino:∀ x∈f.xs,1<=x.ino/\x.ino<f.next
 kind:∀ x∈f.xs,x.kind=1∨x.kind=2∨x.kind=3
 es:∀ x∈f.xs,JI x.es
 file:∀ x∈f.xs,x.kind≠2->x.es = []
 led:∀ x∈f.xs,∀ e∈x.es,zl e.ino f.xs=true
 links:∀ x∈f.xs,x.links=(JR x.ino f.xs:Int)
 root:zl 1 f.xs=true
 base:(zg 1 f.xs).kind=2
 bare:JR 1 f.xs=0
theorem zi (h:zl n xs=true):X3 n xs=some (zg n xs)/\zg n xs∈xs/\(zg n xs).ino=n:=by
 rw[Z4]at h;obtain ⟨x,hx⟩:=AK.1 h;have e:zg n xs=x:=by unfold zg;rw[hx];rfl
 obtain ⟨h1,h2⟩:=zaz hx;rw[e];exact ⟨hx,h2,h1⟩
theorem Yb (h:zl n xs=false):X3 n xs=none/\zg n xs=uO:=by
 have h1:=GB h;exact ⟨h1,by unfold zg;rw[h1];rfl⟩
theorem qP (n:Int) (x:zm) (xs:List zm):zg n (qp x xs)=if x.ino=n then x else zg n xs:=by
 unfold zg;rw[zaK];split<;>rfl
theorem UY (n m:Int) (xs:List zm):zg n (qd m xs)=if n=m then uO else zg n xs:=by
 unfold zg;rw[ZG];split<;>rfl
theorem qx {z:zm}:z∈qp x xs↔z=x∨(z∈xs/\z.ino≠x.ino):=by
 unfold qp;rw[Gy];unfold qd;simp
theorem Y6 {z:zm}:z∈qd n xs↔z∈xs/\z.ino≠n:=by
 unfold qd;simp
theorem J1 (h:x∈xs):zl x.ino xs=true:=by
 unfold zl;exact OF.2 ⟨x,h,by simp⟩
theorem za4 {α κ:Type} [DecidableEq κ] {o:zkX κ} {key:α->κ} (p:α->Bool) (x:α):∀ xs:List α,((Uf o key x xs).filter p).length=(xs.filter p).length+if p x then 1 else 0
 | []=>by unfold Uf;cases h:p x<;>simp[h]
 | y :: r=>by
  have ih:=za4 (o:=o) (key:=key) p x r;unfold Uf;split
  ·cases h:p x<;>simp[h,O6]
  ·rw[O6,O6];cases h:p y
   ·simpa using ih
   ·simp[ih];omega
theorem zdw {κ:Type} [DecidableEq κ] {o:zkX κ} {key:α->κ} (p:α->Bool) {n:κ} {xs:List α} (hR:qN o key xs) {e:α} (h:Jk key n xs=some e):(xs.filter p).length=((XO key n xs).filter p).length+if p e then 1 else 0:=by
 obtain ⟨_,_,h3,h4⟩:=Ug n hR;cases hh:YV key n xs with
 | false=>rw[(h4 hh).1]at h;cases h
 | true =>
  obtain ⟨g,_,g2,g3,_⟩:=h3 hh;rw[g2]at h;simp only[Option.some.injEq]at h;have e0:xs=xs.take (qo o key n xs)++e :: xs.drop (qo o key n xs+1):=by
   rw[←h,←Ou g,Ol]
  rw[g3]
  conv=>lhs;rw[e0]
  rw[OS,OS,O6];cases hp:p e<;>simp<;>omega
theorem qi {κ:Type} [DecidableEq κ] {key:α->κ} {n:κ} {xs:List α} {e:α} (h:Jk key n xs=some e):key e=n/\e∈xs:=by
 unfold Jk at h;exact ⟨by have:=List.find?_some h;simpa using this,Bg h⟩
theorem jX {κ:Type} [DecidableEq κ] {key:α->κ} {n:κ} {xs:List α}:YV key n xs=(Jk key n xs).isSome:=by
 unfold YV Jk
 induction xs with
 | nil=>rfl
 | cons y r ih =>
  rw[A5,AA];cases h:decide (key y=n) with
  | true=>rfl
  | false=>rw[O1,ih]
theorem UZ {m:Int} (hR:zZ xs) (hh:zl n xs=true) (hx:x.ino=n):JR m (qp x xs)+JY m (zg n xs)=JR m xs+JY m x:=by
 have h:=Ut (JY m) (x:=x) hR;rw[hx,(zi hh).1]at h;exact h
theorem zfM {m:Int} (hR:zZ xs) (hh:zl x.ino xs=false):JR m (qp x xs)=JR m xs+JY m x:=by
 have h:=Ut (JY m) (x:=x) hR;rw[(Yb hh).1]at h;exact h
theorem zj2 {m:Int} (hR:zZ xs) (hh:zl n xs=true):JR m xs=JR m (qd n xs)+JY m (zg n xs):=by
 have h:=Zn (JY m) (n:=n) hR;rw[(zi hh).1]at h;exact h
theorem zhY (h:∀ x∈xs,∀ e∈x.es,e.ino≠n):JR n xs=0:=by
 unfold JR NZ;rw[List.sum_eq_zero_iff_forall_eq_nat];intro k hk;obtain ⟨x,hx,rfl⟩:=WT.1 hk;unfold JY;rw[Aq,AQ];intro e he;simpa using h x hx e he
theorem Zx (h:JR n xs=0):∀ x∈xs,∀ e∈x.es,e.ino≠n:=fun x hx e he hn=>by
 unfold JR NZ at h;rw[List.sum_eq_zero_iff_forall_eq_nat]at h;have:=h _ (BL hx);unfold JY at this;rw[Aq,AQ]at this;exact this e he (by simpa using hn)
theorem Zl {m:Int} {n:Lz} {es:List zX} (hR:JI es) (h:QW n es=false):JY m { x with es:=zT n i es }=JY m { x with es:=es }+if i=m then 1 else 0:=by
 obtain ⟨_,_,_,h4⟩:=Ug n hR;unfold zT JY;rw[(h4 h).2.1];show ((Uf Jp zX.name ⟨n,i⟩ es).filter _).length=_;rw[za4];by_cases hi:i=m<;>simp[hi]
theorem XT {m:Int} {n:Lz} {es:List zX} (hR:JI es) (h:Jk zX.name n es=some ⟨n,i⟩):JY m { x with es:=es }=JY m { x with es:=zj n es }+if i=m then 1 else 0:=by
 unfold zj JY;have:=zdw (fun e:zX=>decide (e.ino=m)) hR h;simp only at this ⊢;rw[this];by_cases hi:i=m<;>simp[hi]
theorem YJ {n:Lz} {es:List zX} (h:QW n es=true):Jk zX.name n es=some ⟨n,qg n es⟩:=by
 unfold QW at h;rw[jX]at h;obtain ⟨e,he⟩:=AK.1 h;have h1:=(qi he).1;unfold qg;rw[he];cases e with
 | mk a b=>simp at h1 ⊢;exact h1
theorem Va {n:Lz} {es:List zX} (h:JI es):JI (zT n i es):=U8 (x:=(⟨n,i⟩:zX)) h
theorem Xv {n:Lz} {es:List zX} (h:JI es):JI (zj n es):=kO n h
theorem J2 {n:Lz} {es:List zX} {e:zX} (h:e∈zT n i es):e=⟨n,i⟩∨e∈es:=by
 unfold zT at h;rcases Qp.1 h with h | h
 ·exact .inl h
 ·exact .inr (ZE.1 h).1
theorem qZ {n:Lz} {es:List zX} {e:zX} (h:e∈zj n es):e∈es/\e.name≠n:=ZE.1 h
end
section
structure YE (f:FsV) (s:zR):Prop where
 has:zl s.dir f.xs=true
 kind:(zg s.dir f.xs).kind=2
 free:QW s.name (zg s.dir f.xs).es=false
structure zV (f:FsV) (s:zR):Prop where
 has:zl s.dir f.xs=true
 kind:(zg s.dir f.xs).kind=2
 there:Jk zX.name s.name (zg s.dir f.xs).es=some ⟨s.name,s.ino⟩
theorem zV.ino {s:zR} (hf:FsI f) (h:zV f s):zl s.ino f.xs=true:=by
 have:=hf.led _ (zi h.has).2.1 ⟨s.name,s.ino⟩ (qi h.there).2;exact this
abbrev qz (d:zm) (es:List zX):zm:={ d with es:=es }
theorem qy {F:List zX->List zX} (hh:zl n xs=true) {z:zm}:z∈qn n F xs↔z=qz (zg n xs) (F (zg n xs).es)∨(z∈xs/\z.ino≠n):=by
 unfold qn;rw[qx];show z=qz _ _∨(z∈xs/\z.ino≠(zg n xs).ino)↔_;rw[(zi hh).2.2]
theorem zY {m:Int} {F:List zX->List zX} (hh:zl n xs=true):zl m (qn n F xs)=zl m xs:=by
 unfold qn;rw[qT];show (decide ((zg n xs).ino=m)||zl m xs)=_;rw[(zi hh).2.2];by_cases h:n=m
 ·subst h;rw[hh];simp
 ·simp[h]
theorem JM {m:Int} {F:List zX->List zX} (hh:zl n xs=true):zg m (qn n F xs)=if n=m then qz (zg n xs) (F (zg n xs).es) else zg m xs:=by
 unfold qn;rw[qP];show (if (zg n xs).ino=m then _ else _)=_;rw[(zi hh).2.2]
theorem QV {m:Int} {F:List zX->List zX} (hR:zZ xs) (hh:zl n xs=true):JR m (qn n F xs)+JY m (zg n xs)=JR m xs+JY m (qz (zg n xs) (F (zg n xs).es)):=
 UZ hR hh (zi hh).2.2
theorem Nk (hf:FsI f):zl f.next f.xs=false/\∀ x∈f.xs,∀ e∈x.es,e.ino≠f.next:=by
 have h1:zl f.next f.xs=false:=by
  rw[Ov];intro h;have:=(hf.ino _ (zi h).2.1).2;rw[(zi h).2.2]at this;omega
 refine ⟨h1,fun x hx e he hn=>?_⟩;have:=hf.led x hx e he;rw[hn,h1]at this;cases this
theorem vO (hf:FsI f):1<f.next:=by
 have:=(hf.ino _ (zi hf.root).2.1).2;rw[(zi hf.root).2.2]at this;exact this
theorem zlV (hf:FsI f) {s:zR} (hs:YE f s) (k:Int) (hk:k=1∨k=2∨k=3) (t:Lz):FsI (NS f s k t):=by
 obtain ⟨n1,n2⟩:=Nk hf;have hd:=(zi hs.has).2.1;have hR1:zZ (qn s.dir (zT s.name f.next) f.xs):=qc hf.rises;have hn1:zl f.next (qn s.dir (zT s.name f.next) f.xs)=false:=by rw[zY hs.has];exact n1
 have hlt:=vO hf;have hdn:s.dir≠f.next:=fun e=>by have:=hs.has;rw[e,n1]at this;cases this
 refine ⟨qc hR1,fun x hx=>?_,fun x hx=>?_,fun x hx=>?_,fun x hx hk2=>?_,fun x hx e he=>?_,fun x hx=>?_,?_,?_,?_⟩
 ·rcases qx.1 hx with rfl | ⟨hx,_⟩
  ·exact ⟨by show 1<=f.next;omega,by show f.next<f.next+1;omega⟩
  ·rcases (qy hs.has).1 hx with rfl | ⟨hx,_⟩
   ·have:=hf.ino _ hd;exact ⟨this.1,by show (zg s.dir f.xs).ino<f.next+1;omega⟩
   ·have:=hf.ino _ hx;exact ⟨this.1,by show x.ino<f.next+1;omega⟩
 ·rcases qx.1 hx with rfl | ⟨hx,_⟩
  ·exact hk
  ·rcases (qy hs.has).1 hx with rfl | ⟨hx,_⟩
   ·exact .inr (.inl hs.kind)
   ·exact hf.kind _ hx
 ·rcases qx.1 hx with rfl | ⟨hx,_⟩
  ·exact List.Pairwise.nil
  ·rcases (qy hs.has).1 hx with rfl | ⟨hx,_⟩
   ·exact Va (hf.es _ hd)
   ·exact hf.es _ hx
 ·rcases qx.1 hx with rfl | ⟨hx,_⟩
  ·rfl
  ·rcases (qy hs.has).1 hx with rfl | ⟨hx,_⟩
   ·exact absurd hs.kind hk2
   ·exact hf.file _ hx hk2
 ·show zl e.ino (qp _ _)=true;rw[qT,zY hs.has];show (decide (f.next=e.ino)||zl e.ino f.xs)=true;rcases qx.1 hx with rfl | ⟨hx,_⟩
  ·cases he
  ·rcases (qy hs.has).1 hx with rfl | ⟨hx,_⟩
   ·rcases J2 he with rfl | he
    ·simp
    ·rw[hf.led _ hd e he,BO]
   ·rw[hf.led _ hx e he,BO]
 ·show x.links=(JR x.ino (qp _ _):Int);rw[zfM hR1 hn1];have hc:=QV (m:=x.ino) (F:=zT s.name f.next) hf.rises hs.has;have hw:=Zl (m:=x.ino) (i:=f.next) (x:=zg s.dir f.xs) (hf.es _ hd) hs.free;have hz:JY x.ino (⟨f.next,k,1,t,if k=2 then s.dir else 0,[]⟩:zm)=0:=rfl;have hw:JY x.ino (qz (zg s.dir f.xs) (zT s.name f.next (zg s.dir f.xs).es))=JY x.ino (zg s.dir f.xs)+if f.next=x.ino then 1 else 0:=hw;rw[hz];rcases qx.1 hx with rfl | ⟨hx,hxn⟩
  ·have h0:JR f.next f.xs=0:=zhY n2;have hw:JY f.next (qz (zg s.dir f.xs) (zT s.name f.next (zg s.dir f.xs).es))=JY f.next (zg s.dir f.xs)+if f.next=f.next then 1 else 0:=hw;rw[if_pos rfl]at hw;show (1:Int)=((JR f.next (qn s.dir (zT s.name f.next) f.xs)+0:Nat):Int);have hc:JR f.next (qn s.dir (zT s.name f.next) f.xs)+JY f.next (zg s.dir f.xs)=JR f.next f.xs+JY f.next (qz (zg s.dir f.xs) (zT s.name f.next (zg s.dir f.xs).es)):=hc;omega
  ·have hxn:x.ino≠f.next:=hxn;rw[if_neg fun e=>hxn e.symm]at hw;have hl:x.links=(JR x.ino f.xs:Int):=by
    rcases (qy hs.has).1 hx with rfl | ⟨hx,_⟩
    ·exact hf.links (zg s.dir f.xs) hd
    ·exact hf.links _ hx
   omega
 ·show zl 1 (qp _ _)=true;rw[qT,zY hs.has,hf.root,BO]
 ·show (zg 1 (qp _ _)).kind=2;rw[qP];rw[if_neg (show ¬f.next=1 by omega),JM hs.has];split
  ·exact hs.kind
  ·exact hf.base
 ·show JR 1 (qp _ _)=0;rw[zfM hR1 hn1];have hc:=QV (m:=1) (F:=zT s.name f.next) hf.rises hs.has;have hw:JY 1 (qz (zg s.dir f.xs) (zT s.name f.next (zg s.dir f.xs).es))=JY 1 (zg s.dir f.xs)+if f.next=1 then 1 else 0:=Zl (m:=1) (i:=f.next) (x:=zg s.dir f.xs) (hf.es (zg s.dir f.xs) hd) hs.free;have hz:JY 1 (⟨f.next,k,1,t,if k=2 then s.dir else 0,[]⟩:zm)=0:=rfl;have:=hf.bare;rw[if_neg (show ¬f.next=1 by omega)]at hw;omega
theorem zpO (hf:FsI f) {s:zR} (hs:YE f s) (k:Int) (hk:k=1∨k=2∨k=3) (t:Lz):FsI (Hc f s k t).1:=by
 unfold Hc;by_cases h1:may s.name=true
 ·rw[if_pos h1];by_cases h2:J7 f 1 (if k=1 then (t.length:Int) else 0)=true
  ·rw[if_pos h2];exact zlV hf hs k hk t
  ·rw[if_neg h2];exact hf
 ·rw[if_neg h1];exact hf
theorem zmc (hf:FsI f) {i:Int} (hh:zl i f.xs=true) (t:Lz):FsI (XP f i t):=by
 have hg:=zi hh;have hmem:∀ {z:zm},z∈(XP f i t).xs->∃ y∈f.xs,z.ino=y.ino/\z.kind=y.kind/\z.es=y.es/\z.links=y.links:=fun {z} hz=>by
  rcases qx.1 hz with rfl | ⟨hz,_⟩
  ·exact ⟨_,hg.2.1,rfl,rfl,rfl,rfl⟩
  ·exact ⟨_,hz,rfl,rfl,rfl,rfl⟩
 have hhas:∀ m,zl m (XP f i t).xs=zl m f.xs:=fun m=>by
  show zl m (qp _ _)=_;rw[qT];show (decide ((zg i f.xs).ino=m)||_)=_;rw[hg.2.2];by_cases h:i=m
  ·subst h;rw[hh];simp
  ·simp[h]
 have hcnt:∀ m,JR m (XP f i t).xs=JR m f.xs:=fun m=>by
  have h:=UZ (m:=m) (x:={ zg i f.xs with data:=t }) hf.rises hh hg.2.2;have e:JY m { zg i f.xs with data:=t }=JY m (zg i f.xs):=rfl;show JR m (qp _ _)=_;omega
 refine ⟨qc hf.rises,fun x hx=>?_,fun x hx=>?_,fun x hx=>?_,fun x hx hk2=>?_,fun x hx e he=>?_,fun x hx=>?_,by rw[hhas];exact hf.root,?_,?_⟩
 ·obtain ⟨y,hy,e1,_⟩:=hmem hx;rw[e1];exact hf.ino y hy
 ·obtain ⟨y,hy,_,e2,_⟩:=hmem hx;rw[e2];exact hf.kind y hy
 ·obtain ⟨y,hy,_,_,e3,_⟩:=hmem hx;rw[e3];exact hf.es y hy
 ·obtain ⟨y,hy,_,e2,e3,_⟩:=hmem hx;rw[e3];exact hf.file y hy (by rw[←e2];exact hk2)
 ·obtain ⟨y,hy,_,_,e3,_⟩:=hmem hx;rw[hhas];exact hf.led y hy e (by rw[←e3];exact he)
 ·obtain ⟨y,hy,e1,_,_,e4⟩:=hmem hx;rw[hcnt,e4,e1];exact hf.links y hy
 ·show (zg 1 (qp _ _)).kind=2;rw[qP];split
  ·rename_i h;have h:(zg i f.xs).ino=1:=h;rw[hg.2.2]at h;subst h;exact hf.base
  ·exact hf.base
 ·rw[hcnt];exact hf.bare
theorem zmM (hf:FsI f) {s:zR} (hs:YE f s) {i:Int} (hi:zl i f.xs=true) (hk:(zg i f.xs).kind≠2):FsI (Zq f s i):=by
 have hd:=zi hs.has;have hx:=zi hi;have hne:s.dir≠i:=fun e=>hk (by rw[←e];exact hs.kind);have hR1:zZ (qn s.dir (zT s.name i) f.xs):=qc hf.rises;have hi1:zl i (qn s.dir (zT s.name i) f.xs)=true:=by rw[zY hs.has];exact hi
 have hg1:zg i (qn s.dir (zT s.name i) f.xs)=zg i f.xs:=by rw[JM hs.has,if_neg hne]
 have hmem:∀ {z:zm},z∈(Zq f s i).xs->z = { zg i f.xs with links:=(zg i f.xs).links+1 }∨z=qz (zg s.dir f.xs) (zT s.name i (zg s.dir f.xs).es)∨(z∈f.xs/\z.ino≠s.dir/\z.ino≠i):=fun {z} hz=>by
  rcases qx.1 hz with rfl | ⟨hz,hzi⟩
  ·exact .inl rfl
  ·have hzi:z.ino≠(zg i f.xs).ino:=hzi;rw[hx.2.2]at hzi;rcases (qy hs.has).1 hz with rfl | ⟨hz,hzd⟩
   ·exact .inr (.inl rfl)
   ·exact .inr (.inr ⟨hz,hzd,hzi⟩)
 have hhas:∀ m,zl m (Zq f s i).xs=zl m f.xs:=fun m=>by
  show zl m (qp _ _)=_;rw[qT,zY hs.has];show (decide ((zg i f.xs).ino=m)||_)=_;rw[hx.2.2];by_cases h:i=m
  ·subst h;rw[hi];simp
  ·simp[h]
 have hcnt:∀ m,JR m (Zq f s i).xs=JR m f.xs+if i=m then 1 else 0:=fun m=>by
  have h:=UZ (m:=m) (x:={ zg i f.xs with links:=(zg i f.xs).links+1 }) hR1 hi1 hx.2.2;rw[hg1]at h;have e:JY m { zg i f.xs with links:=(zg i f.xs).links+1 }=JY m (zg i f.xs):=rfl;have hc:=QV (m:=m) (F:=zT s.name i) hf.rises hs.has;have hw:JY m (qz (zg s.dir f.xs) (zT s.name i (zg s.dir f.xs).es))=JY m (zg s.dir f.xs)+if i=m then 1 else 0:=Zl (m:=m) (i:=i) (x:=zg s.dir f.xs) (hf.es (zg s.dir f.xs) hd.2.1) hs.free;show JR m (qp _ _)=_;omega
 refine ⟨qc hR1,fun x hx'=>?_,fun x hx'=>?_,fun x hx'=>?_,fun x hx' hk2=>?_,fun x hx' e he=>?_,fun x hx'=>?_,by rw[hhas];exact hf.root,?_,?_⟩
 ·rcases hmem hx' with rfl | rfl | ⟨h,_⟩
  ·exact hf.ino (zg i f.xs) hx.2.1
  ·exact hf.ino (zg s.dir f.xs) hd.2.1
  ·exact hf.ino _ h
 ·rcases hmem hx' with rfl | rfl | ⟨h,_⟩
  ·exact hf.kind (zg i f.xs) hx.2.1
  ·exact hf.kind (zg s.dir f.xs) hd.2.1
  ·exact hf.kind _ h
 ·rcases hmem hx' with rfl | rfl | ⟨h,_⟩
  ·exact hf.es (zg i f.xs) hx.2.1
  ·exact Va (hf.es (zg s.dir f.xs) hd.2.1)
  ·exact hf.es _ h
 ·rcases hmem hx' with rfl | rfl | ⟨h,_⟩
  ·exact hf.file (zg i f.xs) hx.2.1 hk2
  ·exact absurd hs.kind hk2
  ·exact hf.file _ h hk2
 ·rw[hhas];rcases hmem hx' with rfl | rfl | ⟨h,_⟩
  ·exact hf.led (zg i f.xs) hx.2.1 e he
  ·rcases J2 he with rfl | he
   ·exact hi
   ·exact hf.led (zg s.dir f.xs) hd.2.1 e he
  ·exact hf.led _ h e he
 ·rw[hcnt];rcases hmem hx' with rfl | rfl | ⟨h,_,hzi⟩
  ·have:=hf.links (zg i f.xs) hx.2.1;show (zg i f.xs).links+1=((JR (zg i f.xs).ino f.xs+if i=(zg i f.xs).ino then 1 else 0:Nat):Int);rw[if_pos hx.2.2.symm,this];rfl
  ·have:=hf.links (zg s.dir f.xs) hd.2.1;show (zg s.dir f.xs).links=((JR (zg s.dir f.xs).ino f.xs+if i=(zg s.dir f.xs).ino then 1 else 0:Nat):Int);rw[if_neg (by rw[hd.2.2];exact fun e=>hne e.symm),this];rfl
  ·rw[if_neg fun e=>hzi e.symm];exact hf.links _ h
 ·show (zg 1 (qp _ _)).kind=2;rw[qP];split
  ·rename_i h;have h:(zg i f.xs).ino=1:=h;rw[hx.2.2]at h;subst h;exact hf.base
  ·rw[JM hs.has];split
   ·exact hs.kind
   ·exact hf.base
 ·rw[hcnt,hf.bare,if_neg fun e=>hk (by rw[e];exact hf.base)]
theorem QD (hf:FsI f) {s:zR} (hs:zV f s):s.ino≠1:=fun e =>
 Zx hf.bare _ (zi hs.has).2.1 _ (qi hs.there).2 e
theorem kS (hf:FsI f) {s:zR} (hs:zV f s) (he:(zg s.ino f.xs).es = []):FsI (zH f s):=by
 have hi:=zV.ino hf hs;have hd:=zi hs.has;have hx:=zi hi;have hr:=QD hf hs;have hne:s.dir≠s.ino:=fun e=>by
  have:=(qi hs.there).2;rw[e,he]at this;cases this
 have hR1:zZ (qn s.dir (zj s.name) f.xs):=qc hf.rises;have hi1:zl s.ino (qn s.dir (zj s.name) f.xs)=true:=by rw[zY hs.has];exact hi
 have hg1:zg s.ino (qn s.dir (zj s.name) f.xs)=zg s.ino f.xs:=by rw[JM hs.has,if_neg hne]
 have hc1:∀ m,JR m (qn s.dir (zj s.name) f.xs)+(if s.ino=m then 1 else 0)=JR m f.xs:=fun m=>by
  have hc:=QV (m:=m) (F:=zj s.name) hf.rises hs.has;have hw:JY m (zg s.dir f.xs)=JY m (qz (zg s.dir f.xs) (zj s.name (zg s.dir f.xs).es))+if s.ino=m then 1 else 0:=XT (m:=m) (i:=s.ino) (x:=zg s.dir f.xs) (hf.es (zg s.dir f.xs) hd.2.1) hs.there;omega
 have hlk:=hf.links (zg s.ino f.xs) hx.2.1;rw[hx.2.2]at hlk;have hci:=hc1 s.ino;rw[if_pos rfl]at hci;have hz:∀ m,JY m (zg s.ino f.xs)=0:=fun m=>by unfold JY;rw[he];rfl
 unfold zH;by_cases hl:(zg s.ino f.xs).links-1=0
 ·rw[if_pos hl];have hc0:JR s.ino (qn s.dir (zj s.name) f.xs)=0:=by omega
  have hcnt:∀ m,JR m (qd s.ino (qn s.dir (zj s.name) f.xs))=JR m (qn s.dir (zj s.name) f.xs):=fun m=>by
   have:=zj2 (m:=m) hR1 hi1;rw[hg1,hz]at this;omega
  have hmem:∀ {z:zm},z∈qd s.ino (qn s.dir (zj s.name) f.xs)->(z=qz (zg s.dir f.xs) (zj s.name (zg s.dir f.xs).es)∨(z∈f.xs/\z.ino≠s.dir))/\z.ino≠s.ino:=fun {z} hz=>by
   obtain ⟨hz,hzi⟩:=Y6.1 hz;exact ⟨(qy hs.has).1 hz,hzi⟩
  have hin:∀ {z:zm},z∈qd s.ino (qn s.dir (zj s.name) f.xs)->z∈qn s.dir (zj s.name) f.xs:=fun {z} hz=>(Y6.1 hz).1;refine ⟨HF hR1,fun x hx'=>?_,fun x hx'=>?_,fun x hx'=>?_,fun x hx' hk2=>?_,fun x hx' e hee=>?_,fun x hx'=>?_,?_,?_,?_⟩
  ·rcases hmem hx' with ⟨rfl | ⟨h,_⟩,_⟩
   ·exact hf.ino (zg s.dir f.xs) hd.2.1
   ·exact hf.ino _ h
  ·rcases hmem hx' with ⟨rfl | ⟨h,_⟩,_⟩
   ·exact hf.kind (zg s.dir f.xs) hd.2.1
   ·exact hf.kind _ h
  ·rcases hmem hx' with ⟨rfl | ⟨h,_⟩,_⟩
   ·exact Xv (hf.es (zg s.dir f.xs) hd.2.1)
   ·exact hf.es _ h
  ·rcases hmem hx' with ⟨rfl | ⟨h,_⟩,_⟩
   ·exact absurd hs.kind hk2
   ·exact hf.file _ h hk2
  ·show zl e.ino (qd _ _)=true;rw[X0,zY hs.has];have h1:e.ino≠s.ino:=Zx hc0 x (hin hx') e hee;rw[Wm h1];show zl e.ino f.xs=true;rcases hmem hx' with ⟨rfl | ⟨h,_⟩,_⟩
   ·exact hf.led (zg s.dir f.xs) hd.2.1 e (qZ hee).1
   ·exact hf.led _ h e hee
  ·show x.links=((JR x.ino (qd _ _):Nat):Int);rw[hcnt];obtain ⟨h1,h2⟩:=hmem hx';have h3:=hc1 x.ino;rw[if_neg fun e=>h2 e.symm]at h3;have h4:x.links=(JR x.ino f.xs:Int):=by
    rcases h1 with rfl | ⟨h,_⟩
    ·exact hf.links (zg s.dir f.xs) hd.2.1
    ·exact hf.links _ h
   omega
  ·show zl 1 (qd _ _)=true;rw[X0,zY hs.has,hf.root,Wm fun e=>hr e.symm];rfl
  ·show (zg 1 (qd _ _)).kind=2;rw[UY,if_neg fun e=>hr e.symm,JM hs.has];split
   ·exact hs.kind
   ·exact hf.base
  ·show JR 1 (qd _ _)=0;rw[hcnt];have:=hc1 1;have:=hf.bare;omega
 ·rw[if_neg hl];have hmem:∀ {z:zm},z∈qp { zg s.ino f.xs with links:=(zg s.ino f.xs).links-1 } (qn s.dir (zj s.name) f.xs)->z = { zg s.ino f.xs with links:=(zg s.ino f.xs).links-1 }∨z=qz (zg s.dir f.xs) (zj s.name (zg s.dir f.xs).es)∨(z∈f.xs/\z.ino≠s.dir/\z.ino≠s.ino):=fun {z} hz=>by
   rcases qx.1 hz with rfl | ⟨hz,hzi⟩
   ·exact .inl rfl
   ·have hzi:z.ino≠(zg s.ino f.xs).ino:=hzi;rw[hx.2.2]at hzi;rcases (qy hs.has).1 hz with rfl | ⟨hz,hzd⟩
    ·exact .inr (.inl rfl)
    ·exact .inr (.inr ⟨hz,hzd,hzi⟩)
  have hhas:∀ m,zl m (qp { zg s.ino f.xs with links:=(zg s.ino f.xs).links-1 } (qn s.dir (zj s.name) f.xs))=zl m f.xs:=fun m=>by
   rw[qT,zY hs.has];show (decide ((zg s.ino f.xs).ino=m)||_)=_;rw[hx.2.2];by_cases h:s.ino=m
   ·rw[←h,hi];simp
   ·simp[h]
  have hcnt:∀ m,JR m (qp { zg s.ino f.xs with links:=(zg s.ino f.xs).links-1 } (qn s.dir (zj s.name) f.xs))=JR m (qn s.dir (zj s.name) f.xs):=fun m=>by
   have h:=UZ (m:=m) (x:={ zg s.ino f.xs with links:=(zg s.ino f.xs).links-1 }) hR1 hi1 hx.2.2;rw[hg1]at h;have e:JY m { zg s.ino f.xs with links:=(zg s.ino f.xs).links-1 }=JY m (zg s.ino f.xs):=rfl;omega
  refine ⟨qc hR1,fun x hx'=>?_,fun x hx'=>?_,fun x hx'=>?_,fun x hx' hk2=>?_,fun x hx' e hee=>?_,fun x hx'=>?_,by rw[hhas];exact hf.root,?_,?_⟩
  ·rcases hmem hx' with rfl | rfl | ⟨h,_⟩
   ·exact hf.ino (zg s.ino f.xs) hx.2.1
   ·exact hf.ino (zg s.dir f.xs) hd.2.1
   ·exact hf.ino _ h
  ·rcases hmem hx' with rfl | rfl | ⟨h,_⟩
   ·exact hf.kind (zg s.ino f.xs) hx.2.1
   ·exact hf.kind (zg s.dir f.xs) hd.2.1
   ·exact hf.kind _ h
  ·rcases hmem hx' with rfl | rfl | ⟨h,_⟩
   ·exact hf.es (zg s.ino f.xs) hx.2.1
   ·exact Xv (hf.es (zg s.dir f.xs) hd.2.1)
   ·exact hf.es _ h
  ·rcases hmem hx' with rfl | rfl | ⟨h,_⟩
   ·exact he
   ·exact absurd hs.kind hk2
   ·exact hf.file _ h hk2
  ·rw[hhas];rcases hmem hx' with rfl | rfl | ⟨h,_⟩
   ·exact hf.led (zg s.ino f.xs) hx.2.1 e hee
   ·exact hf.led (zg s.dir f.xs) hd.2.1 e (qZ hee).1
   ·exact hf.led _ h e hee
  ·rw[hcnt];rcases hmem hx' with rfl | rfl | ⟨h,_,hzi⟩
   ·show (zg s.ino f.xs).links-1=((JR (zg s.ino f.xs).ino (qn s.dir (zj s.name) f.xs):Nat):Int);rw[hx.2.2];omega
   ·have h3:=hc1 (zg s.dir f.xs).ino;have h4:=hf.links (zg s.dir f.xs) hd.2.1;rw[if_neg (by rw[hd.2.2];exact fun e=>hne e.symm)]at h3;show (zg s.dir f.xs).links=((JR (zg s.dir f.xs).ino (qn s.dir (zj s.name) f.xs):Nat):Int);omega
   ·have h3:=hc1 x.ino;rw[if_neg fun e=>hzi e.symm]at h3;have h4:=hf.links _ h;omega
  ·show (zg 1 (qp _ _)).kind=2;rw[qP,if_neg (show ¬(zg s.ino f.xs).ino=1 by rw[hx.2.2];exact hr),JM hs.has];split
   ·exact hs.kind
   ·exact hf.base
  ·rw[hcnt];have:=hc1 1;have:=hf.bare;omega
end
section
theorem zaT (hf:FsI f) {ys:List zm} (hR:zZ ys) (hall:∀ z∈ys,∃ y∈f.xs,z.ino=y.ino/\z.kind=y.kind/\z.links=y.links/\JI z.es/\(z.kind≠2->z.es = [])/\∀ e∈z.es,zl e.ino f.xs=true)
  (hhas:∀ m,zl m ys=zl m f.xs) (hcnt:∀ m,JR m ys=JR m f.xs):FsI { f with xs:=ys }:=by
 refine ⟨hR,fun x hx=>?_,fun x hx=>?_,fun x hx=>?_,fun x hx hk=>?_,fun x hx e he=>?_,fun x hx=>?_,by rw[hhas];exact hf.root,?_,by rw[hcnt];exact hf.bare⟩
 ·obtain ⟨y,hy,e1,_⟩:=hall x hx;rw[e1];exact hf.ino y hy
 ·obtain ⟨y,hy,_,e2,_⟩:=hall x hx;rw[e2];exact hf.kind y hy
 ·obtain ⟨y,hy,_,_,_,e4,_⟩:=hall x hx;exact e4
 ·obtain ⟨y,hy,_,_,_,_,e5,_⟩:=hall x hx;exact e5 hk
 ·obtain ⟨y,hy,_,_,_,_,_,e6⟩:=hall x hx;rw[hhas];exact e6 e he
 ·obtain ⟨y,hy,e1,_,e3,_⟩:=hall x hx;rw[hcnt,e3,e1];exact hf.links y hy
 ·have h1:zl 1 ys=true:=by rw[hhas];exact hf.root
  obtain ⟨y,hy,e1,e2,_⟩:=hall _ (zi h1).2.1;rw[(zi h1).2.2]at e1;have e7:=(zmB hf.rises).1 hy;rw[←e1,(zi hf.root).1]at e7;simp only[Option.some.injEq]at e7;show (zg 1 ys).kind=2;rw[e2,←e7];exact hf.base
theorem zmZ (hf:FsI f) {a b:zR} (ha:zV f a) (hb:YE f b):FsI (QL f a b):=by
 have hda:=zi ha.has;have hdb:=zi hb.has;have hai:=zV.ino hf ha;obtain ⟨g1,hg1⟩:∃ g1,qn a.dir (zj a.name) f.xs=g1:=⟨_,rfl⟩;obtain ⟨g2,hg2⟩:∃ g2,qn b.dir (zT b.name a.ino) g1=g2:=⟨_,rfl⟩;have hR1:zZ g1:=by rw[←hg1];exact qc hf.rises
 have hR2:zZ g2:=by rw[←hg2];exact qc hR1
 have hh1:∀ m,zl m g1=zl m f.xs:=fun m=>by rw[←hg1];exact zY ha.has
 have hb1:zl b.dir g1=true:=by rw[hh1];exact hb.has
 have hh2:∀ m,zl m g2=zl m f.xs:=fun m=>by rw[←hg2,zY hb1];exact hh1 m
 have hgb:zg b.dir g1=if a.dir=b.dir then qz (zg a.dir f.xs) (zj a.name (zg a.dir f.xs).es) else zg b.dir f.xs:=by rw[←hg1,JM ha.has]
 have hmem1:∀ {z:zm},z∈g1->z=qz (zg a.dir f.xs) (zj a.name (zg a.dir f.xs).es)∨(z∈f.xs/\z.ino≠a.dir):=fun {z} hz=>by rw[←hg1]at hz;exact (qy ha.has).1 hz
 have hmem2:∀ {z:zm},z∈g2->z=qz (zg b.dir g1) (zT b.name a.ino (zg b.dir g1).es)∨(z∈g1/\z.ino≠b.dir):=fun {z} hz=>by rw[←hg2]at hz;exact (qy hb1).1 hz
 have hal1:∀ z∈g1,∃ y∈f.xs,z.ino=y.ino/\z.kind=y.kind/\z.links=y.links/\JI z.es/\(z.kind≠2->z.es = [])/\∀ e∈z.es,zl e.ino f.xs=true:=fun z hz=>by
  rcases hmem1 hz with rfl | ⟨h,_⟩
  ·exact ⟨_,hda.2.1,rfl,rfl,rfl,Xv (hf.es _ hda.2.1),fun hk=>absurd ha.kind hk,fun e he=>hf.led _ hda.2.1 e (qZ he).1⟩
  ·exact ⟨_,h,rfl,rfl,rfl,hf.es _ h,hf.file _ h,hf.led _ h⟩
 have hal2:∀ z∈g2,∃ y∈f.xs,z.ino=y.ino/\z.kind=y.kind/\z.links=y.links/\JI z.es/\(z.kind≠2->z.es = [])/\∀ e∈z.es,zl e.ino f.xs=true:=fun z hz=>by
  rcases hmem2 hz with rfl | ⟨h,_⟩
  ·obtain ⟨y,hy,e1,e2,e3,e4,e5,e6⟩:=hal1 _ (zi hb1).2.1;refine ⟨y,hy,e1,e2,e3,Va e4,fun hk=>?_,fun e he=>?_⟩
   ·have hk':(zg b.dir g1).kind≠2:=hk;have:(zg b.dir g1).kind=2:=by
     rw[hgb];split
     ·exact ha.kind
     ·exact hb.kind
    exact absurd this hk'
   ·rcases J2 he with rfl | he
    ·exact hai
    ·exact e6 e he
  ·exact hal1 z h
 have hfree:QW b.name (zg b.dir g1).es=false:=by
  rw[hgb];split
  ·rename_i hab;show QW b.name (zj a.name (zg a.dir f.xs).es)=false;rw[Ov];intro h;have h1:=YJ h;have h2:=(qZ (qi h1).2).1;have h3:QW b.name (zg a.dir f.xs).es=true:=by
    unfold QW YV;exact OF.2 ⟨_,h2,by simp⟩
   have:=hb.free;rw[←hab,h3]at this;cases this
  ·exact hb.free
 have hc1:∀ m,JR m g1+(if a.ino=m then 1 else 0)=JR m f.xs:=fun m=>by
  have hc:=QV (m:=m) (F:=zj a.name) hf.rises ha.has;have hw:JY m (zg a.dir f.xs)=JY m (qz (zg a.dir f.xs) (zj a.name (zg a.dir f.xs).es))+if a.ino=m then 1 else 0:=XT (m:=m) (i:=a.ino) (x:=zg a.dir f.xs) (hf.es _ hda.2.1) ha.there;rw[hg1]at hc;omega
 have hc2:∀ m,JR m g2=JR m f.xs:=fun m=>by
  have hc:=QV (m:=m) (F:=zT b.name a.ino) hR1 hb1;obtain ⟨_,_,_,_,_,e4,_⟩:=hal1 _ (zi hb1).2.1;have hw:JY m (qz (zg b.dir g1) (zT b.name a.ino (zg b.dir g1).es))=JY m (zg b.dir g1)+if a.ino=m then 1 else 0:=Zl (m:=m) (i:=a.ino) (x:=zg b.dir g1) e4 hfree;have:=hc1 m;rw[hg2]at hc;omega
 have key:FsI { f with xs:=g2 }:=zaT hf hR2 hal2 hh2 hc2;unfold QL;rw[hg1,hg2];show FsI (if (zg a.ino g2).kind=2 then _ else _);split
 ·have hia:zl a.ino g2=true:=by rw[hh2];exact hai
  have hx:=zi hia;refine zaT hf (qc hR2) (fun z hz=>?_) (fun m=>?_) (fun m=>?_)
  ·rcases qx.1 hz with rfl | ⟨hz,_⟩
   ·exact hal2 (zg a.ino g2) hx.2.1
   ·exact hal2 z hz
  ·rw[qT];show (decide ((zg a.ino g2).ino=m)||_)=_;rw[hx.2.2,hh2];by_cases h:a.ino=m
   ·rw[←h,hai];simp
   ·simp[h]
  ·have h:=UZ (m:=m) (x:={ zg a.ino g2 with parent:=b.dir }) hR2 hia hx.2.2;have e:JY m { zg a.ino g2 with parent:=b.dir }=JY m (zg a.ino g2):=rfl;have:=hc2 m;omega
 ·exact key
theorem zkW {f:FsV} (hf:FsI f):∀ (ns:List Lz) (s:zR),(s.ino≠0->zl s.ino f.xs=true)->(atW f.xs ns s).2=0->ns≠[] ->
  zl (atW f.xs ns s).1.dir f.xs=true/\(zg (atW f.xs ns s).1.dir f.xs).kind=2/\(atW f.xs ns s).1.ino=qg (atW f.xs ns s).1.name (zg (atW f.xs ns s).1.dir f.xs).es/\(atW f.xs ns s).1.name∈ns
 | [],s,_,_,h=>absurd rfl h
 | n :: r,s,hs,h0,_=>by
  unfold atW at h0 ⊢;by_cases h1:s.ino=0
  ·rw[if_pos h1]at h0;cases h0
  rw[if_neg h1]at h0 ⊢;by_cases h2:(zg s.ino f.xs).kind≠2
  ·rw[if_pos h2]at h0;cases h0
  rw[if_neg h2]at h0 ⊢;have h2:(zg s.ino f.xs).kind=2:=Wx.1 h2;have hg:=zi (hs h1);have hnx:qg n (zg s.ino f.xs).es≠0->zl (qg n (zg s.ino f.xs).es) f.xs=true:=fun hne=>by
   have hh:QW n (zg s.ino f.xs).es=true:=by
    unfold QW;rw[jX];cases hq:Jk zX.name n (zg s.ino f.xs).es with
    | some e=>rfl
    | none=>unfold qg at hne;rw[hq]at hne;exact absurd rfl hne
   exact hf.led _ hg.2.1 _ (qi (YJ hh)).2
  cases r with
  | nil =>
   unfold atW;rw[hg.2.2];exact ⟨hs h1,h2,rfl,Wj⟩
  | cons m r =>
   obtain ⟨i1,i2,i3,i4⟩:=zkW hf (m :: r) ⟨(zg s.ino f.xs).ino,n,qg n (zg s.ino f.xs).es⟩ hnx h0 (by simp);exact ⟨i1,i2,i3,Wk _ i4⟩
theorem v8 {f:FsV} (hf:FsI f):∀ (ns:List Lz) (s:zR),(s.ino≠0->zl s.ino f.xs=true)->(atW f.xs ns s).1.ino≠0->zl (atW f.xs ns s).1.ino f.xs=true
 | [],s,hs,h=>hs h
 | n :: r,s,hs,h=>by
  unfold atW at h ⊢;by_cases h1:s.ino=0
  ·rw[if_pos h1]at h;exact absurd rfl h
  rw[if_neg h1]at h ⊢;by_cases h2:(zg s.ino f.xs).kind≠2
  ·rw[if_pos h2]at h;exact absurd rfl h
  rw[if_neg h2]at h ⊢;have hg:=zi (hs h1);refine v8 hf r _ (fun hne=>?_) h;have hne:qg n (zg s.ino f.xs).es≠0:=hne;have hh:QW n (zg s.ino f.xs).es=true:=by
   unfold QW;rw[jX];cases hq:Jk zX.name n (zg s.ino f.xs).es with
   | some e=>rfl
   | none=>unfold qg at hne;rw[hq]at hne;exact absurd rfl hne
  exact hf.led _ hg.2.1 _ (qi (YJ hh)).2
end
section
structure Z7 (w:qC):Prop where
 fs:FsI w.fs
 kept:qN Jh zS.slot w.kept
 pool:zZ w.pool
 apart:∀ x∈w.pool,zl x.ino w.fs.xs=false/\x.ino<w.fs.next
theorem VP (hf:FsI f) {n:Int} (h:zl n f.xs=true):n≠0:=fun e=>by
 have:=(hf.ino _ (zi h).2.1).1;rw[(zi h).2.2]at this;omega
theorem Nt (hf:FsI f) {d:Int} (hd:zl d f.xs=true) {n:Lz} (h:QW n (zg d f.xs).es=true):zl (qg n (zg d f.xs).es) f.xs=true:=
 hf.led _ (zi hd).2.1 _ (qi (YJ h)).2
theorem zhE (hf:FsI f) {p:Lz} (hp:qK p=true) (h:(atV f p).2=0) :
  zl (atV f p).1.dir f.xs=true/\(zg (atV f p).1.dir f.xs).kind=2/\(atV f p).1.ino=qg (atV f p).1.name (zg (atV f p).1.dir f.xs).es/\(atV f p).1.name∈zF p:=by
 unfold qK at hp;simp only[Wt,An,Or]at hp;unfold atV at h ⊢;rw[if_pos hp.1]at h ⊢;exact zkW hf (zF p) ⟨0,[],1⟩ (fun _=>hf.root) h hp.2
theorem jR (hf:FsI f) {p:Lz} (hp:qK p=true) (h:(isV f p true).2.2=0):zV f (isV f p true).1/\(isV f p true).2.1=zg (isV f p true).1.ino f.xs:=by
 unfold isV at h ⊢;simp only at h ⊢;by_cases h0:(atV f p).2≠0
 ·rw[if_pos h0]at h;exact absurd h h0
 rw[if_neg h0]at h;have h0:(atV f p).2=0:=Wx.1 h0;obtain ⟨a1,a2,a3,_⟩:=zhE hf hp h0;refine ⟨⟨a1,a2,?_⟩,trivial⟩;have hh:zl (atV f p).1.ino f.xs=true:=by
  cases hq:zl (atV f p).1.ino f.xs with
  | true=>rfl
  | false=>rw[hq]at h;simp at h
 have he:QW (atV f p).1.name (zg (atV f p).1.dir f.xs).es=true:=by
  unfold QW;rw[jX];cases hq:Jk zX.name (atV f p).1.name (zg (atV f p).1.dir f.xs).es with
  | some e=>rfl
  | none =>
   unfold qg at a3;rw[hq]at a3;exact absurd a3 (VP hf hh)
 rw[YJ he,←a3]
theorem JQ (hf:FsI f) {p:Lz} (hp:qK p=true) (h:(isV f p false).2.2=0):YE f (isV f p false).1:=by
 unfold isV at h ⊢;simp only at h ⊢;by_cases h0:(atV f p).2≠0
 ·rw[if_pos h0]at h;exact absurd h h0
 rw[if_neg h0]at h;have h0:(atV f p).2=0:=Wx.1 h0;obtain ⟨a1,a2,a3,_⟩:=zhE hf hp h0;refine ⟨a1,a2,?_⟩;have hh:zl (atV f p).1.ino f.xs=false:=by
  cases hq:zl (atV f p).1.ino f.xs with
  | false=>rfl
  | true=>rw[hq]at h;simp at h
 rw[Ov];intro he;have:=Nt hf a1 he;rw[←a3,hh]at this;cases this
theorem J3 {o:OpV} (h:NT o=true):qK o.a=true/\(zrN o.kind=true->qK o.b=true)/\1<=o.kind/\o.kind<=10:=by
 unfold NT at h;simp only[Wt,W7]at h;obtain ⟨⟨⟨⟨⟨⟨h1,h2⟩,h3⟩,h4⟩,h5⟩,h6⟩,h7⟩:=h;exact ⟨h3,fun hb=>by rw[if_pos hb]at h5;exact h5,h1,h2⟩
theorem zlR (hw:Z7 w) {g:FsV} (hg:FsI g) (hn:w.fs.next<=g.next) (hh:∀ x∈w.pool,zl x.ino g.xs=false):Z7 { w with fs:=g }:=
 ⟨hg,hw.kept,hw.pool,fun x hx=>⟨hh x hx,by have:=(hw.apart x hx).2;show x.ino<g.next;omega⟩⟩
theorem QF (f:FsV) (s:zR) (k:Int) (t:Lz):(Hc f s k t).1=f∨(Hc f s k t).1=NS f s k t:=by
 unfold Hc;by_cases h1:may s.name=true
 ·rw[if_pos h1];by_cases h2:J7 f 1 (if k=1 then (t.length:Int) else 0)=true
  ·rw[if_pos h2];exact .inr rfl
  ·rw[if_neg h2];exact .inl rfl
 ·rw[if_neg h1];exact .inl rfl
theorem vl (hw:Z7 w) {p:Lz} (hp:qK p=true) {k:Int} (hk:k=1∨k=2∨k=3) (t:Lz):Z7 (Yo w p k t).1:=by
 unfold Yo;by_cases h:(isV w.fs p false).2.2≠0
 ·rw[if_pos h];exact hw
 rw[if_neg h];have hs:=JQ hw.fs hp (Wx.1 h);refine zlR hw (zpO hw.fs hs k hk t) ?_ ?_
 ·rcases QF w.fs (isV w.fs p false).1 k t with e | e
  ·rw[e];exact Ai _
  ·rw[e];show w.fs.next<=w.fs.next+1;omega
 ·intro x hx;obtain ⟨a1,a2⟩:=hw.apart x hx;rcases QF w.fs (isV w.fs p false).1 k t with e | e
  ·rw[e];exact a1
  ·rw[e];show zl x.ino (qp _ _)=false;rw[qT,zY hs.has,a1];show (decide (w.fs.next=x.ino)||false)=false;rw[Wm (by omega)];rfl
theorem kY (hf:FsI f) {p:Lz} (hp:qK p=true) (h:(jl f p).2=0):zl (jl f p).1.ino f.xs=true/\(jl f p).1.kind=1/\(jl f p).1=zg (jl f p).1.ino f.xs:=by
 unfold jl at h ⊢;simp only at h ⊢;by_cases h0:(isV f p true).2.2≠0
 ·rw[if_pos h0]at h;exact absurd h h0
 rw[if_neg h0]at h;obtain ⟨h1,h2⟩:=jR hf hp (Wx.1 h0);have hi:=zV.ino hf h1;have hg:=zi hi;rw[h2]at h ⊢;rw[hg.2.2];refine ⟨hi,?_,rfl⟩;have hk:=hf.kind _ hg.2.1;by_cases h3:(zg (isV f p true).1.ino f.xs).kind=2
 ·rw[if_pos h3]at h;cases h
 rw[if_neg h3]at h;by_cases h4:(zg (isV f p true).1.ino f.xs).kind=3
 ·rw[if_pos h4]at h;cases h
 omega
theorem zdS {k:zS} (h:qN Jh zS.slot ks) (hn:zak k.slot ks=false):qN Jh zS.slot (qH k ks):=
 Vo h fun y hy e=>by
  unfold zak YV at hn;rw[Ow]at hn;exact hn y hy (by simpa using e)
theorem Vb {s:zR} (h:zl s.dir f.xs=true) (hi:zl s.ino f.xs=true) (m:Int):zl m (zH f s).xs=if (zg s.ino f.xs).links-1=0 then (!decide (m=s.ino)&&zl m f.xs) else zl m f.xs:=by
 unfold zH;split
 ·show zl m (qd _ _)=_;rw[X0,zY h]
 ·show zl m (qp _ _)=_;rw[qT,zY h];show (decide ((zg s.ino f.xs).ino=m)||_)=_;rw[(zi hi).2.2];by_cases e:s.ino=m
  ·rw[←e,hi];simp
  ·simp[e]
theorem Yg (f:FsV) (s:zR):(zH f s).next=f.next:=by unfold zH;split<;>rfl
theorem ze4 (hw:Z7 w) {n:Int} {s:zR} (hs:zV w.fs s) (he:(zg s.ino w.fs.xs).es = []):Z7 (Xm w n s).1:=by
 unfold Xm;cases hn:zak n w.kept with
 | true=>rw[if_pos rfl];exact hw
 | false =>
  rw[if_neg (by simp)];have hi:=zV.ino hw.fs hs;have hg:=zi hi;have hf:=kS hw.fs hs he;refine ⟨hf,zdS hw.kept hn,?_,fun x hx=>?_⟩
  ·show zZ (if _ then _ else _);split
   ·exact qc hw.pool
   ·exact hw.pool
  ·show zl x.ino (zH w.fs s).xs=false/\x.ino<(zH w.fs s).next;rw[Vb hs.has hi,Yg];have hx:x∈(if (zg s.ino w.fs.xs).links=1 then qp { zg s.ino w.fs.xs with links:=0,parent:=0 } w.pool else w.pool):=hx;by_cases h1:(zg s.ino w.fs.xs).links=1
   ·rw[if_pos h1]at hx;rw[if_pos (by omega)];rcases qx.1 hx with rfl | ⟨hx,_⟩
    ·refine ⟨?_,?_⟩
     ·show (!decide ((zg s.ino w.fs.xs).ino=s.ino)&&_)=false;rw[hg.2.2];simp
     ·exact (hw.fs.ino _ hg.2.1).2
    ·obtain ⟨a1,a2⟩:=hw.apart x hx;rw[a1,Aj];exact ⟨rfl,a2⟩
   ·rw[if_neg h1]at hx;rw[if_neg (by omega)];exact hw.apart x hx
theorem zsr (hw:Z7 w) (o:OpV) (hk:o.kind<=7):Z7 (doV w o).1:=by
 unfold doV;cases hm:NT o with
 | false=>exact hw
 | true =>
  obtain ⟨p1,p2,k1,_⟩:=J3 hm;rw[if_neg (by simp)];by_cases h1:o.kind=1
  ·rw[if_pos h1];exact vl hw p1 (.inr (.inl rfl)) []
  rw[if_neg h1];by_cases h2:o.kind=2
  ·rw[if_pos h2];unfold VF;split
   ·exact hw
   ·exact vl hw (p2 (by rw[h2];rfl)) (.inl rfl) _
  rw[if_neg h2];by_cases h3:o.kind=3
  ·rw[if_pos h3];have pb:=p2 (by rw[h3];rfl);unfold Qx;split
   ·exact hw
   ·split
    ·exact hw
    ·rename_i hfb;have hfb:=kY hw.fs pb (Wx.1 hfb);split
     ·exact hw
     ·split
      ·exact hw
      ·rename_i hkd;split
       ·exact hw
       ·rename_i hda;have hkd:=Wx.1 hkd;have hda:=Wx.1 hda;unfold JE at hkd ⊢;cases hn:zak o.slot w.kept with
        | true=>rw[hn]at hkd;simp at hkd
        | false =>
         rw[if_neg (by simp)];unfold U2 at hda ⊢;by_cases hr:J7 w.fs 0 (((jl w.fs o.a).1.data.length:Int)-(zg (jl w.fs o.b).1.ino w.fs.xs).data.length)=true
         ·rw[if_pos hr];have hfi:=zmc hw.fs hfb.1 (jl w.fs o.a).1.data;refine ⟨hfi,zdS hw.kept hn,hw.pool,fun x hx=>⟨?_,(hw.apart x hx).2⟩⟩;show zl x.ino (qp _ _)=false;rw[qT,(hw.apart x hx).1];show (decide ((zg (jl w.fs o.b).1.ino w.fs.xs).ino=x.ino)||false)=false;rw[(zi hfb.1).2.2,AS,Or];intro e;have:=(hw.apart x hx).1;rw[←e,hfb.1]at this;cases this
         ·rw[if_neg hr]at hda;cases hda
  rw[if_neg h3];by_cases h4:o.kind=4
  ·rw[if_pos h4];exact vl hw p1 (.inr (.inr rfl)) _
  rw[if_neg h4];by_cases h5:o.kind=5
  ·rw[if_pos h5];have pb:=p2 (by rw[h5];rfl);unfold jL;simp only;split
   ·exact hw
   ·rename_i ha;obtain ⟨t1,t2⟩:=jR hw.fs p1 (Wx.1 ha);split
    ·exact hw
    ·rename_i hkd;split
     ·exact hw
     ·rename_i hb;have hfree:=JQ hw.fs pb (Wx.1 hb);have hi:=zV.ino hw.fs t1;rw[t2]at hkd;have e:(isV w.fs o.a true).2.1.ino=(isV w.fs o.a true).1.ino:=by rw[t2,(zi hi).2.2]
      rw[e];have hfi:=zmM hw.fs hfree hi hkd;refine zlR hw hfi (Ai _) fun x hx=>?_;show zl x.ino (qp _ _)=false;rw[qT,zY hfree.has,(hw.apart x hx).1];show (decide ((zg (isV w.fs o.a true).1.ino w.fs.xs).ino=x.ino)||false)=false;rw[(zi hi).2.2,AS,Or];intro e2;have:=(hw.apart x hx).1;rw[←e2,hi]at this;cases this
  rw[if_neg h5];by_cases h6:o.kind=6
  ·rw[if_pos h6];have pb:=p2 (by rw[h6];rfl);unfold H9;split
   ·exact hw
   ·rename_i ha;split
    ·exact hw
    ·rename_i hb;obtain ⟨t1,t2⟩:=jR hw.fs p1 (Wx.1 ha);have hfree:=JQ hw.fs pb (Wx.1 hb);have hmv:=zmZ hw.fs t1 hfree;refine zlR hw hmv ?_ fun x hx=>?_
     ·unfold QL;simp only;split<;>exact Ai _
     ·have hi:=zV.ino hw.fs t1;have hb1:zl (isV w.fs o.b false).1.dir (qn (isV w.fs o.a true).1.dir (zj (isV w.fs o.a true).1.name) w.fs.xs)=true:=by rw[zY t1.has];exact hfree.has
      have h2:∀ m,zl m (qn (isV w.fs o.b false).1.dir (zT (isV w.fs o.b false).1.name (isV w.fs o.a true).1.ino) (qn (isV w.fs o.a true).1.dir (zj (isV w.fs o.a true).1.name) w.fs.xs))=zl m w.fs.xs:=fun m=>by rw[zY hb1,zY t1.has]
      unfold QL;simp only;split
      ·show zl x.ino (qp _ _)=false;have hi2:=h2 (isV w.fs o.a true).1.ino;rw[hi]at hi2;rw[qT,h2,(hw.apart x hx).1];show (decide ((zg (isV w.fs o.a true).1.ino _).ino=x.ino)||false)=false;rw[(zi hi2).2.2,AS,Or];intro e2;have:=(hw.apart x hx).1;rw[←e2,hi]at this;cases this
      ·show zl x.ino (qn _ _ _)=false;rw[h2];exact (hw.apart x hx).1
  rw[if_neg h6];unfold qV;simp only;split
  ·exact hw
  ·rename_i ha;split
   ·exact hw
   ·rename_i hes;obtain ⟨t1,t2⟩:=jR hw.fs p1 (Wx.1 ha);rw[t2]at hes;exact ze4 hw t1 (Wx.1 hes)
end
section
def kj (N:Nat) (x:zm):Prop:=x.es.length<=N/\x.data.length<=5000/\∀ e∈x.es,e.name.length<=300
structure yh (N:Nat) (w:qC):Prop where
 len:w.fs.xs.length<=N
 node:∀ x∈w.fs.xs,kj N x
 klen:w.kept.length<=N
 kdata:∀ k∈w.kept,k.data.length<=5000
 plen:w.pool.length<=N
 pnode:∀ x∈w.pool,kj N x
 next:w.fs.next<=1099511627776+N
 room:w.fs.maxI<=1073741824/\w.fs.maxB<=1073741824/\-1073741824<=w.fs.maxI/\-1073741824<=w.fs.maxB
theorem kj.up (h:kj N x):kj (N+1) x:=⟨OL h.1,h.2⟩
theorem yh.up (h:yh N w):yh (N+1) w:=
 ⟨OL h.len,fun x hx=>(h.node x hx).up,OL h.klen,h.kdata,OL h.plen,fun x hx=>(h.pnode x hx).up,by have:=h.next;omega,h.room⟩
theorem NP {n:Lz} (h:may n=true):n.length<=255:=by
 unfold may at h;simp only[Wt,W7]at h;exact h.1.1.1.2
theorem zey (n:Lz) (i:Int) (es:List zX):(zT n i es).length<=es.length+1:=by
 unfold zT;rw[Uy];have:=MG (key:=zX.name) n es;omega
theorem UU (h:kj N x) {n:Lz} (hn:n.length<=300) (i:Int):kj (N+1) (qz x (zT n i x.es)):=by
 refine ⟨?_,h.2.1,fun e he=>?_⟩
 ·have:=zey n i x.es;have:=h.1;show (zT n i x.es).length<=N+1;omega
 ·rcases J2 he with rfl | he
  ·exact hn
  ·exact h.2.2 e he
theorem VR (h:kj N x) (n:Lz):kj N (qz x (zj n x.es)):=by
 refine ⟨?_,h.2.1,fun e he=>h.2.2 e (qZ he).1⟩;have:=MG (key:=zX.name) n x.es;have:=h.1;show (XO zX.name n x.es).length<=N;omega
theorem jO (h:∀ x∈xs,kj N x) {n:Int} (hh:zl n xs=true):kj N (zg n xs):=h _ (zi hh).2.1
theorem Vy (h:∀ x∈xs,kj N x) (hx:kj N x):∀ z∈qp x xs,kj N z:=fun z hz=>by
 rcases qx.1 hz with rfl | ⟨hz,_⟩
 ·exact hx
 ·exact h z hz
theorem JA (hR:zZ xs) (hh:zl x.ino xs=true):(qp x xs).length=xs.length:=by rw[←vu hR hh];simp
theorem j6 {F:List zX->List zX} (hR:zZ xs) (hh:zl n xs=true):(qn n F xs).length=xs.length:=by
 unfold qn;refine JA hR ?_;show zl (zg n xs).ino xs=true;rw[(zi hh).2.2];exact hh
theorem zgZ (hf:FsI f) {p:Lz} (hp:qK p=true) (h:(atV f p).2=0):(atV f p).1.name.length<=300:=by
 have h1:=(zhE hf hp h).2.2.2;unfold qK Yi at hp;simp only[Wt]at hp;have:=NP (WA.1 hp.1.2 _ h1);omega
theorem Vt {p:Lz} {b:Bool} (h:(isV f p b).2.2=0):(atV f p).2=0:=by
 unfold isV at h;simp only at h;by_cases h0:(atV f p).2≠0
 ·rw[if_pos h0]at h;exact h
 ·exact Wx.1 h0
theorem zmw (hw:Z7 w) (hb:yh N w) {p:Lz} (hp:qK p=true) {k:Int} {t:Lz} (ht:t.length<=5000):yh (N+1) (Yo w p k t).1:=by
 unfold Yo;by_cases h:(isV w.fs p false).2.2≠0
 ·rw[if_pos h];exact hb.up
 rw[if_neg h];have h:=Wx.1 h;have hs:=JQ hw.fs hp h;unfold Hc;by_cases h1:may (isV w.fs p false).1.name=true
 ·rw[if_pos h1];by_cases h2:J7 w.fs 1 (if k=1 then (t.length:Int) else 0)=true
  ·rw[if_pos h2];have hl:=NP h1;refine ⟨?_,?_,by have:=hb.klen;show w.kept.length<=N+1;omega,hb.kdata,by have:=hb.plen;show w.pool.length<=N+1;omega,fun x hx=>(hb.pnode x hx).up,?_,hb.room⟩
   ·show (qp _ _).length<=N+1;refine WJ zgI ?_;rw[j6 hw.fs.rises hs.has];have:=hb.len;omega
   ·refine Vy (fun z hz=>?_) ⟨Wc _,ht,fun e he=>by cases he⟩;rcases (qy hs.has).1 hz with rfl | ⟨hz,_⟩
    ·exact UU (jO hb.node hs.has) (by omega) _
    ·exact (hb.node z hz).up
   ·show w.fs.next+1<=_;have:=hb.next;omega
  ·rw[if_neg h2];exact hb.up
 ·rw[if_neg h1];exact hb.up
theorem fsB (hb:yh N w) {g:FsV} (h1:g.xs.length<=N+1) (h2:∀ x∈g.xs,kj (N+1) x) (h3:g.next=w.fs.next) (h4:g.maxI=w.fs.maxI/\g.maxB=w.fs.maxB):yh (N+1) { w with fs:=g }:=
 ⟨h1,h2,OL hb.klen,hb.kdata,OL hb.plen,fun x hx=>(hb.pnode x hx).up,by show g.next<=_;rw[h3];have:=hb.next;omega,by show g.maxI<=_/\g.maxB<=_/\_<=g.maxI/\_<=g.maxB;rw[h4.1,h4.2];exact hb.room⟩
theorem xM (k:zS) (ks:List zS):(qH k ks).length=ks.length+1:=Uy k ks
theorem zmC (hf:FsI f) (h1:f.xs.length<=N) (h2:∀ x∈f.xs,kj N x) {s:zR} (hs:zV f s):(zH f s).xs.length<=N/\(∀ x∈(zH f s).xs,kj N x)/\(zH f s).next=f.next/\(zH f s).maxI=f.maxI/\(zH f s).maxB=f.maxB:=by
 have hi:=zV.ino hf hs;have hd:∀ z∈qn s.dir (zj s.name) f.xs,kj N z:=fun z hz=>by
  rcases (qy hs.has).1 hz with rfl | ⟨hz,_⟩
  ·exact VR (jO h2 hs.has) _
  ·exact h2 z hz
 have hl:=j6 (F:=zj s.name) hf.rises hs.has;unfold zH;split
 ·refine ⟨?_,fun x hx=>hd x (Y6.1 hx).1,rfl,rfl,rfl⟩;show (qd _ _).length<=N;exact WJ Zt (by rw[hl];exact h1)
 ·refine ⟨?_,Vy hd (jO h2 hi),rfl,rfl,rfl⟩;show (qp _ _).length<=N;rw[JA (show zZ (qn s.dir (zj s.name) f.xs) from qc hf.rises) ?_,hl]
  ·exact h1
  ·show zl (zg s.ino f.xs).ino (qn _ _ _)=true;rw[(zi hi).2.2,zY hs.has];exact hi
theorem doB (hw:Z7 w) (hb:yh N w) (o:OpV) (hd:o.d.length<=5000) (hk:o.kind<=7):yh (N+1) (doV w o).1:=by
 unfold doV;cases hm:NT o with
 | false=>exact hb.up
 | true =>
  obtain ⟨p1,p2,k1,_⟩:=J3 hm;rw[if_neg (by simp)];by_cases h1:o.kind=1
  ·rw[if_pos h1];exact zmw hw hb p1 (by simp)
  rw[if_neg h1];by_cases h2:o.kind=2
  ·rw[if_pos h2];unfold VF;split
   ·exact hb.up
   ·rename_i hfa;have hfa:=kY hw.fs p1 (Wx.1 hfa);refine zmw hw hb (p2 (by rw[h2];rfl)) ?_;rw[hfa.2.2];exact (jO hb.node hfa.1).2.1
  rw[if_neg h2];by_cases h3:o.kind=3
  ·rw[if_pos h3];have pb:=p2 (by rw[h3];rfl);unfold Qx;split
   ·exact hb.up
   ·rename_i hfa;have hfa:=kY hw.fs p1 (Wx.1 hfa);split
    ·exact hb.up
    ·rename_i hfb;have hfb:=kY hw.fs pb (Wx.1 hfb);split
     ·exact hb.up
     ·split
      ·exact hb.up
      ·rename_i hkd;split
       ·exact hb.up
       ·rename_i hda;have hkd:=Wx.1 hkd;have hda:=Wx.1 hda;unfold JE at hkd ⊢;cases hn:zak o.slot w.kept with
        | true=>rw[hn]at hkd;simp at hkd
        | false =>
         rw[if_neg (by simp)];unfold U2 at hda ⊢;by_cases hr:J7 w.fs 0 (((jl w.fs o.a).1.data.length:Int)-(zg (jl w.fs o.b).1.ino w.fs.xs).data.length)=true
         ·rw[if_pos hr];have hg:=zi hfb.1;refine ⟨?_,?_,?_,fun k hk=>?_,OL hb.plen,fun x hx=>(hb.pnode x hx).up,by have:=hb.next;show w.fs.next<=_;omega,hb.room⟩
          ·show (qp _ _).length<=N+1;rw[JA hw.fs.rises (by show zl (zg _ _).ino _=true;rw[hg.2.2];exact hfb.1)];exact OL hb.len
          ·refine Vy (fun z hz=>(hb.node z hz).up) ?_;have h7:=(jO hb.node hfb.1).up;refine ⟨h7.1,?_,h7.2.2⟩;show (jl w.fs o.a).1.data.length<=5000;rw[hfa.2.2];exact (jO hb.node hfa.1).2.1
          ·show (qH _ _).length<=N+1;rw[xM];have:=hb.klen;omega
          ·rcases Qp.1 hk with rfl | hk
           ·exact (jO hb.node hfb.1).2.1
           ·exact hb.kdata k hk
         ·rw[if_neg hr]at hda;cases hda
  rw[if_neg h3];by_cases h4:o.kind=4
  ·rw[if_pos h4];exact zmw hw hb p1 hd
  rw[if_neg h4];by_cases h5:o.kind=5
  ·rw[if_pos h5];have pb:=p2 (by rw[h5];rfl);unfold jL;simp only;split
   ·exact hb.up
   ·rename_i ha;obtain ⟨t1,t2⟩:=jR hw.fs p1 (Wx.1 ha);split
    ·exact hb.up
    ·split
     ·exact hb.up
     ·rename_i hb2;have hb2:=Wx.1 hb2;have hfree:=JQ hw.fs pb hb2;have hi:=zV.ino hw.fs t1;have e:(isV w.fs o.a true).2.1.ino=(isV w.fs o.a true).1.ino:=by rw[t2,(zi hi).2.2]
      rw[e];have hln:=zgZ hw.fs pb (Vt hb2);refine fsB hb ?_ ?_ rfl ⟨rfl,rfl⟩
      ·show (qp _ _).length<=N+1;rw[JA (show zZ (qn (isV w.fs o.b false).1.dir (zT (isV w.fs o.b false).1.name (isV w.fs o.a true).1.ino) w.fs.xs) from qc hw.fs.rises) (by show zl (zg _ _).ino _=true;rw[(zi hi).2.2,zY hfree.has];exact hi),j6 hw.fs.rises hfree.has];exact OL hb.len
      ·refine Vy (fun z hz=>?_) (jO hb.node hi).up;rcases (qy hfree.has).1 hz with rfl | ⟨hz,_⟩
       ·exact UU (jO hb.node hfree.has) hln _
       ·exact (hb.node z hz).up
  rw[if_neg h5];by_cases h6:o.kind=6
  ·rw[if_pos h6];have pb:=p2 (by rw[h6];rfl);unfold H9;split
   ·exact hb.up
   ·rename_i ha;split
    ·exact hb.up
    ·rename_i hb2;have hb2:=Wx.1 hb2;obtain ⟨t1,t2⟩:=jR hw.fs p1 (Wx.1 ha);have hfree:=JQ hw.fs pb hb2;have hi:=zV.ino hw.fs t1;have hln:=zgZ hw.fs pb (Vt hb2);obtain ⟨g1,hg1⟩:∃ g1,qn (isV w.fs o.a true).1.dir (zj (isV w.fs o.a true).1.name) w.fs.xs=g1:=⟨_,rfl⟩;obtain ⟨g2,hg2⟩:∃ g2,qn (isV w.fs o.b false).1.dir (zT (isV w.fs o.b false).1.name (isV w.fs o.a true).1.ino) g1=g2:=⟨_,rfl⟩;have hR1:zZ g1:=by rw[←hg1];exact qc hw.fs.rises
     have hb1:zl (isV w.fs o.b false).1.dir g1=true:=by rw[←hg1,zY t1.has];exact hfree.has
     have hn1:∀ z∈g1,kj N z:=fun z hz=>by
      rw[←hg1]at hz;rcases (qy t1.has).1 hz with rfl | ⟨hz,_⟩
      ·exact VR (jO hb.node t1.has) _
      ·exact hb.node z hz
     have hn2:∀ z∈g2,kj (N+1) z:=fun z hz=>by
      rw[←hg2]at hz;rcases (qy hb1).1 hz with rfl | ⟨hz,_⟩
      ·exact UU (jO hn1 hb1) hln _
      ·exact (hn1 z hz).up
     have hl2:g2.length=w.fs.xs.length:=by rw[←hg2,j6 hR1 hb1,←hg1,j6 hw.fs.rises t1.has]
     have hi2:zl (isV w.fs o.a true).1.ino g2=true:=by rw[←hg2,zY hb1,←hg1,zY t1.has];exact hi
     have hR2:zZ g2:=by rw[←hg2];exact qc hR1
     unfold QL;rw[hg1,hg2];simp only;split
     ·refine fsB hb ?_ (Vy hn2 (jO hn2 hi2)) rfl ⟨rfl,rfl⟩;show (qp _ _).length<=N+1;rw[JA hR2 (by show zl (zg _ _).ino _=true;rw[(zi hi2).2.2];exact hi2),hl2];exact OL hb.len
     ·refine fsB hb ?_ hn2 rfl ⟨rfl,rfl⟩;show g2.length<=N+1;rw[hl2];exact OL hb.len
  rw[if_neg h6];unfold qV;simp only;split
  ·exact hb.up
  ·rename_i ha;split
   ·exact hb.up
   ·obtain ⟨t1,t2⟩:=jR hw.fs p1 (Wx.1 ha);have hi:=zV.ino hw.fs t1;unfold Xm;split
    ·exact hb.up
    ·obtain ⟨u1,u2,u3,u4,u5⟩:=zmC hw.fs hb.len hb.node t1;refine ⟨OL u1,fun x hx=>(u2 x hx).up,?_,fun k hk=>?_,?_,fun x hx=>?_,?_,?_⟩
     ·show (qH _ _).length<=N+1;rw[xM];have:=hb.klen;omega
     ·rcases Qp.1 hk with rfl | hk
      ·exact Wc _
      ·exact hb.kdata k hk
     ·show (if _ then _ else _:List zm).length<=N+1;split
      ·exact WJ zgI (by have:=hb.plen;omega)
      ·exact OL hb.plen
     ·have hx:x∈(if (zg (isV w.fs o.a true).1.ino w.fs.xs).links=1 then qp { zg (isV w.fs o.a true).1.ino w.fs.xs with links:=0,parent:=0 } w.pool else w.pool):=hx;split at hx
      ·exact Vy (x:={ zg (isV w.fs o.a true).1.ino w.fs.xs with links:=0,parent:=0 }) (fun z hz=>(hb.pnode z hz).up) (show kj (N+1) _ from (jO hb.node hi).up) x hx
      ·exact (hb.pnode x hx).up
     ·show (zH _ _).next<=_;rw[u3];have:=hb.next;omega
     ·show (zH _ _).maxI<=_/\(zH _ _).maxB<=_/\_<=(zH _ _).maxI/\_<=(zH _ _).maxB;rw[u4,u5];exact hb.room
end
section
open CA CB
open Go.RowKit
section
variable {G:zo}
theorem yu (f:FsV):Fun Tryz.prog G 277 [.agg (fsC f)] (.sc (.int .i64 (f.xs.length:Nat))) 0:=by
 refine fon Tryz.func277 ?_;dsimp only[Tryz.f277];push_cast;exact dn (by push_cast [ze,zd,CLe,zh,show (zq f.xs).length=f.xs.length from We ..])
theorem zcM (f:FsV) (hf:FsS f):Fun Tryz.prog G 278 [.agg (fsC f)] (.sc (.int .i64 (z7 f.xs:Nat))) 0:=by
 have hll:(zq f.xs).length=f.xs.length:=We ..;have hb:=hf.bytes;have h4:=hf.len;have hb0:z7 []=0:=rfl;have hmono:∀ i,z7 (f.xs.take i)<=100000000:=fun i=>by
  have h1:=kV (xs:=f.xs.take i) (n:=10000) fun x hx=>(hf.node x (Wu hx)).2.1;have h2:(f.xs.take i).length<=10000:=by rw[W5];have:=hf.len;omega
  have:(f.xs.take i).length*10000<=10000*10000:=WP _ h2;omega
 refine fon Tryz.func278 ?_;dsimp only[Tryz.f278];push_cast;refine loop (fun i:Nat=>⟨[(1,.ptr 0 0),(3,.sc (.int .i64 (z7 (f.xs.take i):Nat))),(7,.sc (.int .i64 (f.xs.length:Nat))),(8,.sc (.int .i64 i))],[fsC f],0,0⟩) (fun i=>i<=f.xs.length) (fun i=>f.xs.length-i) 0 (Wc _) ?_ ?_
 ·exact wk (by push_cast [ze,zd,CLe,zh,hb0,hll,OD])
 ·intro i h1;by_cases h:i<f.xs.length
  ·have g1:=qR f.xs i h;have ht:=H4 h;have hm:=hmono (i+1);have hm0:=hmono i;rw[ht]at hm;by_cases hk:f.xs[i].kind=1
   ·rw[if_pos hk]at ht hm;push_cast [hll,h,g1,hk]
    repeat refine an ?_
    exact ⟨i+1,h,by omega,wk (by push_cast [ze,zd,CLe,zh,ht])⟩
   ·rw[if_neg hk]at ht hm;push_cast [hll,h,g1,hk]
    repeat refine an ?_
    exact ⟨i+1,h,by omega,wk (by push_cast [ze,zd,CLe,zh,ht,Aa])⟩
  ·rw[Wg (by omega)];push_cast [hll,h];exact dn
theorem xx (f:FsV) (hf:FsS f) (n b:Int) (hn:-1000000000<=n/\n<=1000000000) (hb:-1000000000<=b/\b<=1000000000):Fun Tryz.prog G 255 [.agg (fsC f),.sc (.int .i64 n),.sc (.int .i64 b)] (.sc (.bool (J7 f n b))) 0:=by
 have h1:=yu (G:=G) f;have h2:=zcM (G:=G) f hf;have h3:=hf.bytes;have h4:=hf.len;by_cases c1:(f.xs.length:Int)+n<=f.maxI
 ·have e:J7 f n b=decide ((z7 f.xs:Int)+b<=f.maxB):=by unfold J7;rw[Wn c1,OA]
  refine fon Tryz.func255 ?_;dsimp only[Tryz.f255];push_cast;refine cl h1 ?_;push_cast [c1]
  repeat refine an ?_
  refine cl h2 ?_;push_cast
  repeat refine an ?_
  exact dn (by push_cast [ze,zd,CLe,zh,e])
 ·have e:J7 f n b=false:=by unfold J7;rw[Wm c1,Oa]
  refine fon Tryz.func255 ?_;dsimp only[Tryz.f255];push_cast;refine cl h1 ?_;push_cast [c1]
  repeat refine an ?_
  exact dn (by push_cast [ze,zd,CLe,zh,e])
end
end
section
open CA CB
open Go.RowKit
abbrev Y8 (s:zR):List C:=[.sc (.int .i64 s.dir),.str s.name,.sc (.int .i64 s.ino)]
theorem FsS.es (h:FsS f) {n:Int} (hh:zl n f.xs=true):(zg n f.xs).es.length<=10000:=(h.node _ (zi hh).2.1).1
theorem zgf {xs:List Lz} (h:k<xs.length):(zL xs)[k]?=some [.str xs[k]]:=by simp[Ww,Wa h]
theorem GT (f:FsV) (hf:FsI f) (hs:FsS f) (p:Lz) (hp:p.length<=1000000):Fun Tryz.prog G0 218 [.agg (fsC f),.str p] (.tup [.agg (Y8 (atV f p).1),.sc (.int .i64 (atV f p).2)]) 0:=by
 have hpl:=xn p (by omega);have hlen:=hs.len;have hnl:(zF p).length<=1000000:=by have:=jB p;omega
 cases hpp:Yi p with
 | false =>
  have e:atV f p=(jh,9):=by unfold atV;rw[hpp];rfl
  unfold XD at hpl;rw[hpp]at hpl;refine fon Tryz.func218 ?_;dsimp only[Tryz.f218];push_cast;refine cl hpl ?_;push_cast;exact dn (by push_cast [ze,zd,CLe,zh,e,jh])
 | true =>
  have e:atV f p=atW f.xs (zF p) ⟨0,[],1⟩:=by unfold atV;rw[hpp];rfl
  unfold XD at hpl;rw[hpp,if_pos rfl]at hpl;generalize zF p=ns at hpl hnl e;have hsl:(zL ns).length=ns.length:=We ..;refine fon Tryz.func218 ?_;dsimp only[Tryz.f218];push_cast;refine cl hpl ?_;push_cast;refine loop (fun x:Nat×zR=>⟨[(1,.str p),(2,.ptr 0 0),(4,.ptr 1 0),(8,.ptr 2 0),(24,.own 0 9 1 (zL ns)),(25,.sc (.int .i64 (ns.length:Nat))),(26,.sc (.int .i64 x.1))],[fsC f,[.sc (.int .i64 0),.str [],.sc (.int .i64 0)],Y8 x.2],1,0⟩)
   (fun x=>x.1<=ns.length/\atW f.xs ns ⟨0,[],1⟩=atW f.xs (ns.drop x.1) x.2/\(x.2.ino≠0->zl x.2.ino f.xs=true)) (fun x=>ns.length-x.1) (0,⟨0,[],1⟩) ⟨Wc _,rfl,fun _=>hf.root⟩ ?_ ?_
  ·exact wks [.inl 0] (by push_cast [ze,zd,CLe,zh,hsl])
  rintro ⟨k,s⟩ ⟨hk,hat,hin⟩;simp only at hk hat hin ⊢;by_cases hlt:k<ns.length
  ·have gs:=zgf hlt;have hdr:ns.drop k=ns[k] :: ns.drop (k+1):=Ou hlt;obtain ⟨nm,hnm⟩:∃ nm,ns[k]=nm:=⟨_,rfl⟩;rw[hnm]at gs hdr;have hg:=jk (G:=G0) f s.ino (by omega) hf.rises;cases hh:zl s.ino f.xs with
   | false =>
    have h0:s.ino=0:=AB fun hne=>by rw[hin hne]at hh;cases hh
    have hr:atV f p=(jh,1):=by rw[e,hat,hdr];unfold atW;rw[if_pos h0]
    rw[hh]at hg;push_cast [hlt,gs]
    repeat refine an ?_
    refine cl hg ?_;push_cast;exact dn (by push_cast [ze,zd,CLe,zh,hr,jh])
   | true =>
    have hn0:s.ino≠0:=VP hf hh;have hgg:=zi hh;rw[hh]at hg;by_cases hk2:(zg s.ino f.xs).kind=2
    ·have hfd:=Mp (G:=G0) (zg s.ino f.xs).es nm (by have:=hs.es hh;omega) (hf.es _ hgg.2.1);have hnx:atW f.xs ns ⟨0,[],1⟩=atW f.xs (ns.drop (k+1)) ⟨(zg s.ino f.xs).ino,nm,qg nm (zg s.ino f.xs).es⟩:=by
      rw[hat,hdr]
      conv=>lhs;unfold atW
      rw[if_neg hn0,if_neg (by simp[hk2])]
     have hin2:qg nm (zg s.ino f.xs).es≠0->zl (qg nm (zg s.ino f.xs).es) f.xs=true:=fun hne=>by
      refine Nt hf hh ?_;unfold QW;rw[jX];cases hq:Jk zX.name nm (zg s.ino f.xs).es with
      | some e=>rfl
      | none=>unfold qg at hne;rw[hq]at hne;exact absurd rfl hne
     push_cast [hlt,gs]
     repeat refine an ?_
     refine cl hg ?_;push_cast [hk2];refine cl hfd ?_;push_cast
     repeat refine an ?_
     exact ⟨(k+1,⟨(zg s.ino f.xs).ino,nm,qg nm (zg s.ino f.xs).es⟩),⟨hlt,hnx,hin2⟩,by simp only;omega,wks [.inl 0]⟩
    ·have hr:atV f p=(jh,3):=by rw[e,hat,hdr];unfold atW;rw[if_neg hn0,if_pos hk2]
     push_cast [hlt,gs]
     repeat refine an ?_
     refine cl hg ?_;push_cast [hk2];exact dn (by push_cast [ze,zd,CLe,zh,hr,jh])
  ·have hr:atV f p=(s,0):=by rw[e,hat,OR (by omega)];unfold atW;rfl
   push_cast [hlt];exact dn (by push_cast [ze,zd,CLe,zh,hr])
end
section
open CA CB
open Go.RowKit
abbrev zpF (f:FsV):Prop:=0<=f.next/\f.next<=4000000000000000000
theorem U9 (hf:FsI f):f.xs≠[]:=fun h=>by have:=hf.root;rw[h]at this;cases this
theorem kM (hf:FsI f) {n:Int} (hh:zl n f.xs=true):JI (zg n f.xs).es:=hf.es _ (zi hh).2.1
theorem Fun.argsLe {f:FuncId} {args':List C} {n:Nat} (h:Fun P G f args r n) (ha:∀ R vs,zw R zJ args' vs->zw R zJ args vs):Fun P G f args' r n:=
 ⟨h.1,fun R vs hg hv=>h.2 R vs hg (ha R vs hv)⟩
theorem zaw {R:Env} {L:Loc} {v:Value} (h:Rep R L (.sc (.slice none 0 0)) v):Rep R L (.sl k []) v:=by
 rw[zp]at h;subst h;unfold Rep;exact ⟨none,0,rfl,Wb _,Wc _,.inl rfl⟩
theorem zmV (f:FsV) (x:zm) (hx:x.es = []) (hl:f.xs.length<=90000) (hR:zZ f.xs) :
  Fun Tryz.prog G 258 [.agg (fsC f),.agg [.sc (.int .i64 x.ino),.sc (.int .i64 x.kind),.sc (.int .i64 x.links),.str x.data,.sc (.int .i64 x.parent),.sc (.slice none 0 0)]] (.agg [.sc (.int .i64 f.maxI),.sc (.int .i64 f.maxB),.sc (.int .i64 f.next),.own 0 96 6 (zq (qp x f.xs))]) 1:=by
 refine (Vp f x hl hR).argsLe fun R vs h=>?_;obtain ⟨v1,us1,rfl,h1,h⟩:=zf.1 h;obtain ⟨v2,us2,rfl,h2,h⟩:=zf.1 h;refine zf.2 ⟨_,_,rfl,h1,zf.2 ⟨_,_,rfl,?_,h⟩⟩;obtain ⟨ws,rfl,hw⟩:=jU.1 h2;obtain ⟨w1,t1,e1,g1,hw⟩:=zf.1 hw;obtain ⟨w2,t2,e2,g2,hw⟩:=zf.1 hw;obtain ⟨w3,t3,e3,g3,hw⟩:=zf.1 hw;obtain ⟨w4,t4,e4,g4,hw⟩:=zf.1 hw;obtain ⟨w5,t5,e5,g5,hw⟩:=zf.1 hw;obtain ⟨w6,t6,e6,g6,hw⟩:=zf.1 hw;refine jU.2 ⟨ws,rfl,?_⟩;have g6':Rep R zJ (.sl 2 (zN x.es)) w6:=by rw[hx];exact zaw g6
 rw[e1,e2,e3,e4,e5,e6];exact zf.2 ⟨_,_,rfl,g1,zf.2 ⟨_,_,rfl,g2,zf.2 ⟨_,_,rfl,g3,zf.2 ⟨_,_,rfl,g4,zf.2 ⟨_,_,rfl,g5,zf.2 ⟨_,_,rfl,g6',hw⟩⟩⟩⟩⟩⟩
theorem zcb (f:FsV) (hf:FsI f) (hs:FsS f) (hn:zpF f) (s:zR) (hsp:YE f s) (hnl:s.name.length<=100000) (k:Int) (t:Lz) (ht:t.length<=100000) :
  Fun Tryz.prog G0 225 [.agg (fsC f),.agg (Y8 s),.sc (.int .i64 k),.str t] (.tup [.agg (fsC (Hc f s k t).1),.sc (.int .i64 (Hc f s k t).2)]) 0:=by
 have hm:=vh s.name (by omega);have hlen:=hs.len;cases hmay:may s.name with
 | false =>
  have e:Hc f s k t=(f,9):=by unfold Hc;rw[hmay];rfl
  rw[hmay]at hm;by_cases hk:k=1
  ·have hk':=eq_true hk;refine fof (fun j=>if j=14 then [false,false,false,false,false,true] else []) Tryz.func225 ?_;dsimp only[Tryz.f225];push_cast [hk'];refine cl hm ?_;push_cast;exact dn (by push_cast [ze,zd,CLe,zh,e])
  ·have hk':=WR hk;refine fof (fun j=>if j=14 then [false,false,false,false,false,true] else []) Tryz.func225 ?_;dsimp only[Tryz.f225];push_cast [hk'];refine cl hm ?_;push_cast;exact dn (by push_cast [ze,zd,CLe,zh,e])
 | true =>
  rw[hmay]at hm;have key:∀ b:Int,(if k=1 then (t.length:Int) else 0)=b->J7 f 1 b=false->Hc f s k t=(f,8):=fun b hb hr=>by unfold Hc;rw[hmay,if_pos rfl,hb,hr];rfl
  have key2:∀ b:Int,(if k=1 then (t.length:Int) else 0)=b->J7 f 1 b=true->Hc f s k t=(NS f s k t,0):=fun b hb hr=>by unfold Hc;rw[hmay,if_pos rfl,hb,hr];rfl
  have hg:=jk (G:=G0) f s.dir (by omega) hf.rises;rw[hsp.has]at hg;have htk:=ziz (G:=G0) f (by omega) (U9 hf) (by have:=hn.1;omega) (by have:=hn.2;omega);have hes:=hs.es hsp.has;have hw:=xk (G:=G0) (zg s.dir f.xs).es s.name f.next (by omega) (kM hf hsp.has);have hd1:=Vp (G:=G0) ⟨f.maxI,f.maxB,f.next+1,f.xs⟩ (qz (zg s.dir f.xs) (zT s.name f.next (zg s.dir f.xs).es)) (by simp only;omega) hf.rises;have hdl:(qn s.dir (zT s.name f.next) f.xs).length=f.xs.length:=j6 hf.rises hsp.has;have hd2:=fun pr:Int=>zmV (G:=G0) ⟨f.maxI,f.maxB,f.next+1,qn s.dir (zT s.name f.next) f.xs⟩ ⟨f.next,k,1,t,pr,[]⟩ rfl (by simp only;omega) (qc hf.rises);have hx0:k=2->NS f s k t=⟨f.maxI,f.maxB,f.next+1,qp ⟨f.next,k,1,t,s.dir,[]⟩ (qn s.dir (zT s.name f.next) f.xs)⟩:=fun h=>by unfold NS;rw[if_pos h]
  have hx1:k≠2->NS f s k t=⟨f.maxI,f.maxB,f.next+1,qp ⟨f.next,k,1,t,0,[]⟩ (qn s.dir (zT s.name f.next) f.xs)⟩:=fun h=>by unfold NS;rw[if_neg h]
  unfold qn at hd2 hx0 hx1;by_cases hk:k=1
  ·have hk':=eq_true hk;have hk2:(k=2)=False:=WR (by omega);have hr:=xx (G:=G0) f hs 1 t.length (by omega) (by omega);cases hrm:J7 f 1 t.length with
   | false =>
    have e:=key _ (if_pos hk) hrm;rw[hrm]at hr;refine fof (fun j=>if j=14 then [false,false,false,false,false,true] else []) Tryz.func225 ?_;dsimp only[Tryz.f225];push_cast [hk'];refine cl hm ?_;push_cast;refine cl hr ?_;push_cast;exact dn (by push_cast [ze,zd,CLe,zh,e])
   | true =>
    have e:=key2 _ (if_pos hk) hrm;have ex:=hx1 (by omega);rw[hrm]at hr;refine fof (fun j=>if j=14 then [false,false,false,false,false,true] else []) Tryz.func225 ?_;dsimp only[Tryz.f225];push_cast [hk'];refine cl hm ?_;push_cast;refine cl hr ?_;push_cast;refine cl hg ?_;push_cast;refine cl htk ?_;push_cast [hk2];refine cl hw ?_;push_cast;refine cl hd1 ?_;push_cast;refine cl (hd2 0) ?_;push_cast;exact dn (by push_cast [ze,zd,CLe,zh,e,ex])
  ·have hk':=WR hk;have hr:=xx (G:=G0) f hs 1 0 (by omega) (by omega);cases hrm:J7 f 1 0 with
   | false =>
    have e:=key _ (if_neg hk) hrm;rw[hrm]at hr;refine fof (fun j=>if j=14 then [false,false,false,false,false,true] else []) Tryz.func225 ?_;dsimp only[Tryz.f225];push_cast [hk'];refine cl hm ?_;push_cast;refine cl hr ?_;push_cast;exact dn (by push_cast [ze,zd,CLe,zh,e])
   | true =>
    have e:=key2 _ (if_neg hk) hrm;rw[hrm]at hr;by_cases hk2:k=2
    ·have ex:=hx0 hk2;have hk2':=eq_true hk2;refine fof (fun j=>if j=14 then [false,false,false,false,false,true] else []) Tryz.func225 ?_;dsimp only[Tryz.f225];push_cast [hk'];refine cl hm ?_;push_cast;refine cl hr ?_;push_cast;refine cl hg ?_;push_cast;refine cl htk ?_;push_cast [hk2'];refine cl hw ?_;push_cast;refine cl hd1 ?_;push_cast;refine cl (hd2 s.dir) ?_;push_cast;exact dn (by push_cast [ze,zd,CLe,zh,e,ex])
    ·have ex:=hx1 hk2;have hk2':=WR hk2;refine fof (fun j=>if j=14 then [false,false,false,false,false,true] else []) Tryz.func225 ?_;dsimp only[Tryz.f225];push_cast [hk'];refine cl hm ?_;push_cast;refine cl hr ?_;push_cast;refine cl hg ?_;push_cast;refine cl htk ?_;push_cast [hk2'];refine cl hw ?_;push_cast;refine cl hd1 ?_;push_cast;refine cl (hd2 0) ?_;push_cast;exact dn (by push_cast [ze,zd,CLe,zh,e,ex])
end
section
open CA CB
open Go.RowKit
theorem zgq {g:zm->Nat} {n:Nat}:∀ {xs:List zm},(∀ x∈xs,g x<=n)->NZ g xs<=xs.length*n
 | [],_=>by simp[NZ]
 | x :: r,h=>by
  have ih:=zgq (g:=g) (n:=n) (xs:=r) fun y hy=>h y (Wk _ hy);have hx:=h x Wj;unfold NZ at ih ⊢;simp only[Wp,OT,Wh];rw[AP];omega
theorem zaa (hf:FsI f) (hs:FsS f) {n:Int} (hh:zl n f.xs=true):0<=(zg n f.xs).links/\(zg n f.xs).links<=100000000:=by
 have h1:=hf.links _ (zi hh).2.1;have h2:=zgq (g:=JY (zg n f.xs).ino) (n:=10000) (xs:=f.xs) fun x hx=>WJ (OG _ _) (hs.node x hx).1;have h3:=hs.len;have h4:f.xs.length*10000<=10000*10000:=WP _ h3;unfold JR at h1;omega
theorem zky (f:FsV) (hf:FsI f) (hs:FsS f) (s:zR) (hsp:YE f s) (i:Int) (hi:zl i f.xs=true) (hne:s.dir≠i):Fun Tryz.prog G0 230 [.agg (fsC f),.agg (Y8 s),.sc (.int .i64 i)] (.agg (fsC (Zq f s i))) 0:=by
 have hlen:=hs.len;have hg:=jk (G:=G0) f s.dir (by omega) hf.rises;rw[hsp.has]at hg;have hes:=hs.es hsp.has;have hw:=xk (G:=G0) (zg s.dir f.xs).es s.name i (by omega) (kM hf hsp.has);have hd1:=Vp (G:=G0) f (qz (zg s.dir f.xs) (zT s.name i (zg s.dir f.xs).es)) (by omega) hf.rises;have hdl:(qn s.dir (zT s.name i) f.xs).length=f.xs.length:=j6 hf.rises hsp.has;have hR1:zZ (qn s.dir (zT s.name i) f.xs):=qc hf.rises;have hg2:=jk (G:=G0) ⟨f.maxI,f.maxB,f.next,qn s.dir (zT s.name i) f.xs⟩ i (by simp only;omega) hR1;simp only at hg2;rw[zY hsp.has,hi,JM hsp.has,if_neg hne]at hg2;have hl:=zaa hf hs hi;have hd2:=Vp (G:=G0) ⟨f.maxI,f.maxB,f.next,qn s.dir (zT s.name i) f.xs⟩ { zg i f.xs with links:=(zg i f.xs).links+1 } (by simp only;omega) hR1;have e:Zq f s i=⟨f.maxI,f.maxB,f.next,qp { zg i f.xs with links:=(zg i f.xs).links+1 } (qn s.dir (zT s.name i) f.xs)⟩:=rfl;unfold qn at hg2 hd2 e;refine fon Tryz.func230 ?_;dsimp only[Tryz.f230];push_cast;refine cl hg ?_;push_cast;refine cl hw ?_;push_cast;refine cl hd1 ?_;push_cast;refine cl hg2 ?_;push_cast
 repeat refine an ?_
 refine cl hd2 ?_;push_cast;exact dn (by push_cast [ze,zd,CLe,zh,e])
theorem zbq (f:FsV) (hf:FsI f) (hs:FsS f) (s:zR) (hsp:zV f s) (hne:s.dir≠s.ino):Fun Tryz.prog G0 233 [.agg (fsC f),.agg (Y8 s)] (.agg (fsC (zH f s))) 0:=by
 have hi:=zV.ino hf hsp;have hlen:=hs.len;have hg:=jk (G:=G0) f s.dir (by omega) hf.rises;rw[hsp.has]at hg;have hes:=hs.es hsp.has;have hhe:YV zX.name s.name (zg s.dir f.xs).es=true:=by rw[jX,hsp.there];rfl
 have hw:=xA (G:=G0) (zg s.dir f.xs).es s.name (by omega) (kM hf hsp.has) hhe;have hd1:=Vp (G:=G0) f (qz (zg s.dir f.xs) (zj s.name (zg s.dir f.xs).es)) (by omega) hf.rises;have hdl:(qn s.dir (zj s.name) f.xs).length=f.xs.length:=j6 hf.rises hsp.has;have hR1:zZ (qn s.dir (zj s.name) f.xs):=qc hf.rises;have hg2:=jk (G:=G0) ⟨f.maxI,f.maxB,f.next,qn s.dir (zj s.name) f.xs⟩ s.ino (by simp only;omega) hR1;simp only at hg2;rw[zY hsp.has,hi,JM hsp.has,if_neg hne]at hg2;have hl:=zaa hf hs hi;have hxi:=(zi hi).2.2;have hd2:=Vp (G:=G0) ⟨f.maxI,f.maxB,f.next,qn s.dir (zj s.name) f.xs⟩ { zg s.ino f.xs with links:=(zg s.ino f.xs).links-1 } (by simp only;omega) hR1;have hd3:=zh6 (G:=G0) ⟨f.maxI,f.maxB,f.next,qn s.dir (zj s.name) f.xs⟩ s.ino (by simp only;omega) hR1 (by intro h;have h0:f.xs = []:=Aq.1 (by rw[←hdl];exact Wy List.length h);exact U9 hf h0);have e0:zH f s=if (zg s.ino f.xs).links-1=0 then ⟨f.maxI,f.maxB,f.next,qd s.ino (qn s.dir (zj s.name) f.xs)⟩ else ⟨f.maxI,f.maxB,f.next,qp { zg s.ino f.xs with links:=(zg s.ino f.xs).links-1 } (qn s.dir (zj s.name) f.xs)⟩:=rfl;unfold qn at hg2 hd2 hd3 e0;by_cases hz:(zg s.ino f.xs).links-1=0
 ·rw[if_pos hz]at e0;have hz':=eq_true hz;rw[←hxi]at hd3;refine fon Tryz.func233 ?_;dsimp only[Tryz.f233];push_cast;refine cl hg ?_;push_cast;refine cl hw ?_;push_cast;refine cl hd1 ?_;push_cast;refine cl hg2 ?_;push_cast [hz']
  repeat refine an ?_
  refine cl hd3 ?_;push_cast;exact dn (by push_cast [ze,zd,CLe,zh,e0,hxi])
 ·rw[if_neg hz]at e0;have hz':=WR hz;refine fon Tryz.func233 ?_;dsimp only[Tryz.f233];push_cast;refine cl hg ?_;push_cast;refine cl hw ?_;push_cast;refine cl hd1 ?_;push_cast;refine cl hg2 ?_;push_cast [hz']
  repeat refine an ?_
  refine cl hd2 ?_;push_cast;exact dn (by push_cast [ze,zd,CLe,zh,e0])
end
section
open CA CB
open Go.RowKit
end
section
open Go.RowKit
section
variable {G:zo}
theorem Gk (rows:List (List C)) (hk:∀ r∈rows,r.length=4) (hs:jn rows) (hl:rows.length<=100000) :
  YW Tryz.prog G 267 [.sl 4 rows] [] 0 (zg6 4 rows):=by
 refine YW.bySlice (fun h=>?_) (fun h a cap hr=>?_)
 ·refine foX (fun i=>if i=1000000+25 then [true,true] else []) Tryz.func267 ?_;dsimp only[Tryz.f267];push_cast;refine ⟨h,ZP kR kK rfl rfl (by decide) rfl (qr hk) rfl (Wb _) (Wb _) (by omega) (by omega) (fun hc=>absurd hc ?_) (fun _ c hc hm=>?_)⟩
  ·have:=WK.2 h;omega
  ·push_cast;rw[Ot]at hc;refine ⟨_,_,_,⟨⟨rfl,.inl ⟨h,c,hc,hm,rfl,rfl⟩⟩,Wc _⟩,[],rfl,rfl,?_,by push_cast [ze,zd,CLe,zh]⟩;push_cast [ze,zd,CLe,zh];exact zP (zD hs)
 ·cases a with
  | none =>
   refine foX (fun i=>if i=1000000+25 then [true,true] else []) Tryz.func267 ?_;dsimp only[Tryz.f267];push_cast [hr,BU];exact ⟨_,_,_,⟨⟨rfl,.inr ⟨h,.inl ⟨rfl,rfl⟩⟩⟩,Wc _⟩,[],rfl,rfl,by push_cast [ze,zd,CLe,zh],by push_cast [ze,zd,CLe,zh]⟩
  | some a =>
   refine foX (fun i=>if i=1000000+25 then [true,true] else []) Tryz.func267 ?_;dsimp only[Tryz.f267];push_cast [hr,BV];have hx:C.xs? 4 [[]] (C.sc (.slice (some a) 0 cap))=some (0,[]):=by simp[C.xs?,hr]
   refine ZP kR kK hx rfl (by decide) rfl rfl rfl (Wb _) (Wb _) (by omega) (by omega) (fun _=>?_) (fun hc=>absurd hc (by omega));push_cast;exact ⟨_,_,_,⟨⟨rfl,.inr ⟨h,.inr ⟨rfl,rfl⟩⟩⟩,Wc _⟩,[],rfl,rfl,by (push_cast [ze,zd,CLe,zh];simp[spl,zh]),by push_cast [ze,zd,CLe,zh]⟩
theorem Uj (rows:List (List C)) (x:List C) (i c e:Nat) (hk:∀ r∈rows,r.length=4) (hx:x.length=4) (hs:jn rows) (hsx:(x.all C.stayB)=true) (hl:rows.length<=100000) (hi:i<=rows.length) (hc:rows.length<=c) (hcm:c<=9223372036854775807) :
  YW Tryz.prog G 266 [.bs 0 0 4 rows.length c,.sc (.int .i64 i),.own 0 e 4 [x]] [qw 4 rows c] 1 (zq5 4 (c*4) (rows.take i++x :: rows.drop i)):=by
 refine foX (fun j=>if j=1000000+25 then [true,true] else if j=11 then [false,false,false,false,false,false,false,false,true] else if j=15 then [false,false,false,false,false,false,false,false,true] else []) Tryz.func266 ?_;dsimp only[Tryz.f266];push_cast;have hlen:(rows.take i++x :: rows.drop i).length=rows.length+1:=by simp;omega
 have hki:∀ r∈rows.take i++x :: rows.drop i,r.length=4:=fun r hr=>by
  rcases WD.1 hr with hr | hr
  ·exact hk r (Wu hr)
  ·rcases WH.1 hr with rfl | hr
   ·exact hx
   ·exact hk r (WS hr)
 have hsi:jn (rows.take i++x :: rows.drop i):=fun r hr=>by
  rcases WD.1 hr with hr | hr
  ·exact hs r (Wu hr)
  ·rcases WH.1 hr with rfl | hr
   ·exact hsx
   ·exact hs r (WS hr)
 have hbl:=JB hk hc;have hfl:=qr hk;have hxl:[x].flatten.length=1*4:=by simp[hx]
 have hpre:(qw 4 rows c).take rows.flatten.length=rows.flatten:=by unfold qw;rw[By]
 refine ⟨hc,⟨by omega,hi⟩,br (fun h=>?_) (fun h=>?_)⟩
 ·push_cast;refine ZP kR kK rfl rfl (by decide) rfl hxl rfl (by rw[hbl];omega) hc (by simp;omega) (by simp;omega) (fun h1=>?_) (fun h1 c' h2 h3=>?_)
  ·push_cast;have hi':i=rows.length:=WN h;refine ⟨_,_,_,⟨⟨rfl,c,by rw[hlen];exact h1,hcm,.inl ⟨rfl,rfl⟩⟩,Wb _⟩,[],rfl,rfl,?_,by push_cast [ze,zd,CLe,zh,hlen]⟩;push_cast [ze,zd,CLe,zh];have h6:rows.length*4+4<=c*4:=by have:rows.length+1<=c:=h1;omega
   refine Jv hki hsi (by rw[hlen];exact h1) (by rw[Q7 (by rw[hbl,hx];exact h6),hbl]) ?_;rw[hlen,hi',Oe,AJ];unfold spl;rw[←hfl,hpre,OI (by simp[hx,hfl];omega)];simp
  ·push_cast;have hi':i=rows.length:=WN h;have h2':rows.length+1<=c':=h2;refine ⟨_,_,_,⟨⟨rfl,c',by rw[hlen];exact h2,h3,.inr ⟨rfl,rfl⟩⟩,ON rfl⟩,[],rfl,rfl,?_,by push_cast [ze,zd,CLe,zh,hlen]⟩;push_cast [ze,zd,CLe,zh];refine ⟨Xj hbl,Jv hki hsi (by rw[hlen];exact h2) (by simp[hx,hbl];omega) ?_⟩;rw[hlen,hi',Oe,AJ,←hfl,hpre,OI (by simp[hx,hfl];omega)];simp
 ·have hne:i≠rows.length:=OM h;push_cast;refine ⟨⟨by omega,by omega⟩,br (fun h1=>?_) (fun h1=>?_)⟩
  ·have h1':(c:Int)<(rows.length:Int)+1:=WN h1;push_cast
   repeat refine an ?_
   refine zmk kR zn9 kK rfl (by decide) rfl rfl (by rw[hbl];omega) (by omega) (by omega) (by omega) (by omega) (by omega) (fun c' B h2 h3 hBl hBt=>?_);have e1:((rows.length:Int)+1-(i:Int)).toNat=rows.length+1-i:=by omega
   rw[e1]at h2 ⊢;have e2:i+(rows.length+1-i)=rows.length+1:=by omega
   rw[e2]at h2 ⊢;push_cast
   repeat refine an ?_
   refine XE kR kK rfl rfl hxl (by rw[hBl];omega) (fun B1 hB1 hl1=>?_);rw[hBl]at hl1;push_cast
   repeat refine an ?_
   have hbp:=Xs (c:=c) hk hi;refine XE kR kK (UD rfl (by rw[hbl];omega)) rfl (by rw[hbp,WZ,hfl];omega) (by rw[hl1];omega) (fun B2 hB2 hl2=>?_);rw[hl1]at hl2;have hX:[x].flatten.take (min [x].length (rows.length+1-i)*4)=x:=by
    rw[O8,OH (by omega),Wg (by omega)];simp
   rw[hX]at hB1;rw[hbp,show min (rows.length-i) (rows.length-i)*4=(rows.length-i)*4 by omega,Wg (by rw[WZ,hfl];omega),hB1]at hB2;push_cast;refine ⟨_,_,_,⟨⟨rfl,c',by rw[hlen];exact h2,h3,.inr ⟨rfl,rfl⟩⟩,ON rfl⟩,[],rfl,rfl,?_,by push_cast [ze,zd,CLe,zh,hlen]⟩;push_cast [ze,zd,CLe,zh];refine ⟨Xj hbl,Jv hki hsi (by rw[hlen];exact h2) hl2 ?_⟩;rw[hlen,←Ql hk,hB2];have hg:=Ns (cs:=B) (L:=rows.flatten) (X:=x) (p:=i*4) (q:=(i+1)*4) (by omega) (by omega) (by
    rw[hBt,AU];unfold qw;rw[OO (by omega)]) (by omega)
   rw[hfl,hx]at hg;rw[←hg];congr 1;omega
  ·have h1':¬(c:Int)<(rows.length:Int)+1:=OM h1;push_cast
   repeat refine an ?_
   refine zlN (vI (P:=Tryz.prog) (tR:=4) Tryz.func285 (by kernel_rfl) (by kernel_rfl) (by kernel_rfl) (by kernel_rfl) kR kK rfl (Bf (by rw[hbl];omega)) (by simp) (by omega)) ?_;push_cast
   repeat refine an ?_
   have hbp:=Xs (c:=c) hk hi;refine XE kR kK (UD rfl (by rw[hbl];omega)) rfl (by simp[hbl];omega) (by rw[hbl];omega) (fun B1 hB1 hl1=>?_);rw[hbl]at hl1;rw[BW,OH (by omega),show min (rows.length+1-i) (rows.length-i)*4=(rows.length-i)*4 by omega,hbp]at hB1;push_cast
   repeat refine an ?_
   refine XE kR kK rfl rfl hxl (by rw[hl1];omega) (fun B2 hB2 hl2=>?_);rw[hl1]at hl2;have hX:[x].flatten.take (min [x].length (rows.length+1-i)*4)=x:=by
    rw[O8,OH (by omega),Wg (by omega)];simp
   rw[hX,hB1]at hB2;push_cast;have hcc:rows.length+1<=c:=by omega
   refine ⟨_,_,_,⟨⟨rfl,c,by rw[hlen];exact hcc,hcm,.inl ⟨rfl,rfl⟩⟩,ON rfl⟩,[],rfl,rfl,?_,by push_cast [ze,zd,CLe,zh,hlen]⟩;push_cast [ze,zd,CLe,zh];refine Jv hki hsi (by rw[hlen];exact hcc) hl2 ?_;rw[hlen,←Ql hk,hB2];have hg:=ki (cs:=qw 4 rows c) (L:=rows.flatten) (X:=x) (p:=i*4) (q:=(i+1)*4) (by omega) (by omega) hpre (by omega);rw[hfl,hx]at hg;rw[←hg];congr 1;omega
theorem zaj {e:Nat} (x:List C) (hx:x.length=4) (hsx:(x.all C.stayB)=true) :
  YW Tryz.prog G 266 [.sc (.slice none 0 0),.sc (.int .i64 0),.own 0 e 4 [x]] [] 1 (fun r bx' n=>n=0/\∃ c,1<=c/\c<=9223372036854775807/\r = .bs 0 0 4 1 c/\bx' = [qw 4 [x] c]):=by
 refine foX (fun j=>if j=1000000+25 then [true,true] else if j=11 then [false,false,false,false,false,false,false,false,true] else if j=15 then [false,false,false,false,false,false,false,false,true] else []) Tryz.func266 ?_;dsimp only[Tryz.f266];push_cast;refine NM kR kK rfl rfl (by decide) rfl (by simp[hx]) (by simp) (by simp) (by simp) (fun c h1 h2=>?_);push_cast;refine ⟨_,_,_,⟨⟨rfl,c,h1,h2,rfl,rfl⟩,Wc _⟩,[],rfl,rfl,?_,by push_cast [ze,zd,CLe,zh]⟩;push_cast [ze,zd,CLe,zh];have:=zP (src:=[]) (n:=1) (zD (k:=4) (c:=c) (rows:=[x]) fun r hr=>by
  rw[W8.1 hr];exact hsx)
 unfold qw at this ⊢;simpa using this
end
end
section
open CA CB
open Go.RowKit
abbrev Jw (k:zS):List C:=[.sc (.int .i64 k.slot),.sc (.int .i64 k.ino),.sc (.bool k.content),.str k.data]
abbrev zI (ks:List zS):List (List C):=ks.map Jw
theorem j5 (ks:List zS) (i:Nat) (h:i<ks.length):(zI ks)[i]?=some (Jw ks[i]):=by simp[Ww,Wa h]
abbrev HL (w:qC):List C:=[.sc (.int .i64 w.fs.maxI),.sc (.int .i64 w.fs.maxB),.sc (.int .i64 w.fs.next),.sl 6 (zq w.fs.xs),.sl 4 (zI w.kept),.sl 6 (zq w.pool)]
abbrev Xh (w:qC):C:=.agg (HL w)
theorem zdO (a b:Int):Uq a b<0↔Jh.lt a b=true:=by
 show Uq a b<0↔decide (a<b)=true;unfold Uq;rw[W7];split
 ·simp;assumption
 ·split<;>omega
theorem zfA (a b:Int):Uq a b=0↔a=b:=by
 unfold Uq;split
 ·constructor
  ·intro h;cases h
  ·intro h;omega
 ·split
  ·constructor
   ·intro h;cases h
   ·intro h;omega
  ·constructor
   ·intro _;omega
   ·intro _;rfl
section
variable {G:zo}
theorem ziA (k:zS):Fun Tryz.prog G 261 [.agg (Jw k)] (.sc (.int .i64 k.slot)) 0:=by
 refine fon Tryz.func261 ?_;dsimp only[Tryz.f261];push_cast;exact dn
theorem zaJ (k:zS) (n:Int):Fun Tryz.prog G 282 [.agg (Jw k),.sc (.int .i64 n),.row [.clo (.func 261) [] []]] (.sc (.int .i64 (Uq k.slot n))) 0:=by
 refine fon Tryz.func282 ?_;dsimp only[Tryz.f282];push_cast;refine cl (ziA k) ?_;push_cast;refine cl (yU k.slot n) ?_;push_cast;exact dn
theorem M7 (ks:List zS) (n:Int) (hl:ks.length<=100000) (hR:qN Jh zS.slot ks) :
  Fun Tryz.prog G 281 [.sl 4 (zI ks),.sc (.int .i64 n),.clo (.func 282) [] [.row [.clo (.func 261) [] []]]] (.tup [.sc (.int .i64 (qo Jh zS.slot n ks:Nat)),.sc (.bool (YV zS.slot n ks))]) 0:=by
 refine fon Tryz.func281 ?_;dsimp only[Tryz.f281];push_cast;refine loop (fun p:Nat×Nat=>⟨[(0,.sl 4 (zI ks)),(1,.sc (.int .i64 n)),(2,.clo (.func 282) [] [.row [.clo (.func 261) [] []]]),(8,.sc (.int .i64 (ks.length:Nat))),(9,.sc (.int .i64 p.1)),(10,.sc (.int .i64 p.2))],[],0,0⟩)
  (fun p=>p.1<=p.2/\p.2<=ks.length/\(∀ t (h:t<ks.length),t<p.1->(Jh).lt (zS.slot ks[t]) n=true)/\∀ t (h:t<ks.length),p.2<=t->(Jh).lt (zS.slot ks[t]) n=false) (fun p=>p.2-p.1) (0,ks.length) ⟨Wc _,Wb _,fun t _ h=>by (simp at h),fun t h h'=>by (dsimp only at h';omega)⟩ ?_ ?_
 ·exact wk (by push_cast [ze,zd,CLe,zh,We])
 ·rintro ⟨i,j⟩ ⟨h1,h2,h3,h4⟩;dsimp only at h1 h2 h3 h4 ⊢;by_cases h:i<j
  ·obtain ⟨m,hm⟩:∃ m,m=(i+j) / 2:=⟨_,rfl⟩;have hmi:((i:Int)+(j:Int)) / 2=(m:Int):=by omega
   have hml:m<ks.length:=by omega
   have hat:=j5 ks m hml;have hlt:=(zdO ks[m].slot n);push_cast [h,hmi,hat]
   repeat refine an ?_
   refine cl ((zaJ ks[m] n)) ?_;push_cast;cases hc:(Jh).lt (zS.slot ks[m]) n with
   | true =>
    have hcv:(Uq ks[m].slot n<0)=True:=eq_true (hlt.mpr hc);push_cast [hcv]
    repeat refine an ?_
    refine ⟨(m+1,j),⟨by omega,h2,fun t ht hlt2=>?_,h4⟩,by dsimp only;omega,wk⟩;dsimp only at hlt2;rcases Wr t m with q | q
    ·exact (Jh).tr ((WU.1 hR) t m ht hml q) hc
    ·have:t=m:=by omega
     subst this;exact hc
   | false =>
    have hcv:(Uq ks[m].slot n<0)=False:=WR (fun e=>by have h7:(Jh).lt (zS.slot ks[m]) n=true:=hlt.mp e;rw[hc]at h7;cases h7);push_cast [hcv]
    repeat refine an ?_
    refine ⟨(i,m),⟨by omega,by omega,h3,fun t ht hge=>?_⟩,by dsimp only;omega,wk⟩;dsimp only at hge;rcases Wr m t with q | q
    ·cases h9:(Jh).lt (zS.slot ks[t]) n with
     | false=>rfl
     | true=>have:=(Jh).tr ((WU.1 hR) m t hml ht q) h9;rw[hc]at this;cases this
    ·have:t=m:=by omega
     subst this;exact hc
  ·have hij:i=j:=by omega
   subst hij;have hrk:=ZY (o:=Jh) (key:=zS.slot) n ks i h2 h3 h4;push_cast [h];refine br (fun hx=>?_) (fun hx=>?_)
   ·have hx:i<ks.length:=by simpa using hx
    have hat:=j5 ks i hx;have hh:=yr n hR hrk hx;push_cast [hx,hat]
    repeat refine an ?_
    refine cl ((zaJ ks[i] n)) ?_;push_cast;have hcv:decide (Uq ks[i].slot n=0)=YV zS.slot n ks:=by
     rw[hh];exact Ba.2 (zfA ks[i].slot n)
    push_cast [hcv];exact dn (by push_cast [ze,zd,CLe,zh,hrk])
   ·have hx:¬i<ks.length:=by simpa using hx
    have hh:=GH n hR (by omega);push_cast [hx];exact dn (by push_cast [ze,zd,CLe,zh,hrk,hh])
theorem yp (ks:List zS) (n:Int) (hl:ks.length<=100000) (hR:qN Jh zS.slot ks):Fun Tryz.prog G 260 [.sl 4 (zI ks),.sc (.int .i64 n),.clo (.func 261) [] []] (.tup [.sc (.int .i64 (qo Jh zS.slot n ks:Nat)),.sc (.bool (YV zS.slot n ks))]) 0:=by
 refine fon Tryz.func260 ?_;dsimp only[Tryz.f260];push_cast;refine zp7 [.sl 4 (zI ks),.sc (.int .i64 n),.clo (.func 282) [] [.row [.clo (.func 261) [] []]]] (M7 ks n hl hR) rfl ?_ ?_
 ·simp[XK,XV,C.frz,C.frzL]
 push_cast;exact dn
def zhd (n:Int) (ks:List zS):zS:=(Jk zS.slot n ks).getD zl4
theorem zdE (w:qC) (n:Int) (hl:w.kept.length<=100000) (hR:qN Jh zS.slot w.kept):Fun Tryz.prog G 232 [Xh w,.sc (.int .i64 n)] (.tup [.agg (Jw (zhd n w.kept)),.sc (.bool (zak n w.kept))]) 0:=by
 obtain ⟨_,_,h3,h4⟩:=Ug n hR;have h:=yp (G:=G) w.kept n hl hR;cases hh:YV zS.slot n w.kept with
 | false =>
  have hf:zhd n w.kept=zl4:=by unfold zhd;rw[(h4 hh).1];rfl
  have he:zak n w.kept=false:=hh;rw[hh]at h;refine fon Tryz.func232 ?_;dsimp only[Tryz.f232];push_cast;refine cl h ?_;push_cast;exact dn (by push_cast [ze,zd,CLe,zh,hf,he,zl4])
 | true =>
  obtain ⟨hlt,_,g2,_⟩:=h3 hh;have hf:zhd n w.kept=w.kept[qo Jh zS.slot n w.kept]:=by unfold zhd;rw[g2];rfl
  have he:zak n w.kept=true:=hh;have hat:=j5 w.kept _ hlt;rw[hh]at h;refine fon Tryz.func232 ?_;dsimp only[Tryz.f232];push_cast;refine cl h ?_;push_cast [hat]
  repeat refine an ?_
  exact dn (by push_cast [ze,zd,CLe,zh,hf,he])
end
end
section
open Go.RowKit Go.ChangeMaps Go.ChangeShapes Go.WideShapes Go.Deep Go.Joins
section
variable {H:Type} {enc:TypeId×Value->H} {P:Program} {W:World}
theorem jv.two {t:TypeId} {f1 f2:Field} {k1 k2:Nat} {Q1 Q2:List C->Prop} (hs:P.underlying t=some (.struct #[f1,f2])) (h1:jv enc P W f1.type k1 Q1) (h2:jv enc P W f2.type k2 Q2)
  (e1:f1.offset=0) (e2:P.cellsOf f1.type=k1) (e3:f2.offset=k1) (e4:P.cellsOf f2.type=k2) (e5:P.cellsOf t=k1+k2):jv enc P W t (k1+k2) fun row=>∃ a b,row=a++b/\Q1 a/\Q2 b:=fun fuel cs x hx=>by
 obtain ⟨ys,n',hn',hy,hlen,hyl,hf⟩:=DataW.trod_struct hs hx;rw[e5]at hlen;have g1:=hf 0 f1 rfl;have g2:=hf 1 f2 rfl;have hy2:ys.length=2:=by simpa using hyl
 rw[e1,e2,AU,Wa (by omega)]at g1;rw[e3,e4,Wa (by omega)]at g2;obtain ⟨a,qa,la,la',ra⟩:=h1 _ _ _ g1;obtain ⟨b,qb,lb,lb',rb⟩:=h2 _ _ _ g2;refine ⟨a++b,⟨a,b,rfl,qa,qb⟩,by rw[Wq,la,lb],hlen,fun j c v h3 h4=>?_⟩;rcases Wr j k1 with hj | hj
 ·rw[Ws (by omega)]at h3;exact ra j c v h3 (by rw[Bl hj];exact h4)
 ·rw[WM (by omega),la]at h3;have hjl:=(Wd.1 h3).1;refine rb (j-k1) c v h3 ?_;rw[Bl (by omega),W2,show k1+(j-k1)=j by omega];exact h4
theorem zjy:jv enc Tryz.prog W 84 4 fun row=>∃ o:zS,row=Jw o/\o.data.length<=maxLen:=fun fuel cs x hx=>by
 obtain ⟨row,⟨hl,hq⟩,h1,h2,h3⟩:=jv.struct (W:=W) (enc:=enc) (Qs:=fun j c=>match j with | 0=>∃ n,c = .sc (.int .i64 n)/\(Lit.int .i64 n).wf=true | 1=>∃ n,c = .sc (.int .i64 n)/\(Lit.int .i64 n).wf=true | 2=>∃ b,c = .sc (.bool b) | 3=>∃ l:Lz,c = .str l/\l.length<=maxLen | _=>True) Tryz.underlying84 (by kernel_rfl) (by kernel_rfl) (fun j f hj=>by
  match j,hj with
  | 0,hj=>cases hj;exact Opn.int Tryz.underlying3
  | 1,hj=>cases hj;exact Opn.int Tryz.underlying3
  | 2,hj=>cases hj;exact Opn.bool Tryz.underlying4
  | 3,hj=>cases hj;exact Opn.str Tryz.underlying9
  | j+4,hj=>simp at hj) fuel cs x hx
 match row,h1,hq,h3 with
 | [c0,c1,c2,c3],_,hq,h3 =>
  obtain ⟨a,rfl,_⟩:=hq 0 c0 rfl;obtain ⟨b,rfl,_⟩:=hq 1 c1 rfl;obtain ⟨c,rfl⟩:=hq 2 c2 rfl;obtain ⟨d,rfl,hd⟩:=hq 3 c3 rfl;exact ⟨_,⟨⟨a,b,c,d⟩,rfl,hd⟩,rfl,h2,h3⟩
theorem zgE:Opn enc Tryz.prog W 25 fun c=>∃ xs:List zS,c = .sl 4 (zI xs)/\xs.length<=maxLen/\∀ x∈xs,x.data.length<=maxLen:=fun fuel cs x hx=>by
 obtain ⟨v,c,rfl,⟨rows,rfl,hl,hr⟩,h1,h2⟩:=Opn.slice (W:=W) (enc:=enc) Tryz.underlying25 (show Tryz.prog.cellsOf 84=4 by kernel_rfl) (by decide) zjy fuel cs x hx;obtain ⟨xs,rfl,hq⟩:=GU hr;exact ⟨v,_,rfl,⟨xs,rfl,by simpa using hl,hq⟩,h1,h2⟩
theorem zdX:jv enc Tryz.prog W 27 2 fun row=>∃ (ks:List zS) (pool:List zm),row = [.sl 4 (zI ks),.sl 6 (zq pool)]/\ks.length<=maxLen/\pool.length<=maxLen:=fun fuel cs x hx=>by
 obtain ⟨row,⟨hl,hq⟩,h1,h2,h3⟩:=jv.struct (W:=W) (enc:=enc) (Qs:=fun j c=>match j with | 0=>∃ xs:List zS,c = .sl 4 (zI xs)/\xs.length<=maxLen/\∀ x∈xs,x.data.length<=maxLen | 1=>∃ xs:List zm,c = .sl 6 (zq xs)/\xs.length<=maxLen/\∀ x∈xs,zgn x | _=>True) Tryz.underlying27 (by kernel_rfl) (by kernel_rfl) (fun j f hj=>by
  match j,hj with
  | 0,hj=>cases hj;exact zgE
  | 1,hj=>cases hj;exact zau
  | j+2,hj=>simp at hj) fuel cs x hx
 match row,h1,hq,h3 with
 | [c0,c1],_,hq,h3 =>
  obtain ⟨a,rfl,ha,_⟩:=hq 0 c0 rfl;obtain ⟨b,rfl,hb,_⟩:=hq 1 c1 rfl;exact ⟨_,⟨a,b,rfl,ha,hb⟩,rfl,h2,h3⟩
theorem zeJ:jv enc Tryz.prog W 29 6 fun row=>∃ w:qC,row=HL w/\w.fs.xs.length<=maxLen:=fun fuel cs x hx=>by
 obtain ⟨row,⟨a,b,rfl,⟨f,rfl,hf,_⟩,⟨ks,pool,rfl,_⟩⟩,h1,h2,h3⟩:=jv.two (W:=W) (enc:=enc) Tryz.underlying29 zqm zdX rfl (by kernel_rfl) rfl (by kernel_rfl) (by kernel_rfl) fuel cs x hx;exact ⟨_,⟨⟨f,ks,pool⟩,rfl,hf⟩,h1,h2,h3⟩
end
end
section
open CA CB
open Go.RowKit
section
variable {G:zo}
theorem zW:∀ r∈zI ks,r.length=4:=fun r hr=>by
 obtain ⟨x,_,rfl⟩:=WT.1 hr;rfl
theorem zu:jn (zI ks):=fun r hr=>by
 obtain ⟨x,_,rfl⟩:=WT.1 hr;rfl
theorem zg1 (w:qC) (k:zS) (hl:w.kept.length<=90000) (hR:qN Jh zS.slot w.kept) (hn:zak k.slot w.kept=false):Fun Tryz.prog G 238 [Xh w,.agg (Jw k)] (Xh { w with kept:=qH k w.kept }) 0:=by
 obtain ⟨_,_,h3,h4⟩:=Ug (o:=Jh) k.slot hR;have hll:(zI w.kept).length=w.kept.length:=We ..;have hat:=yp (G:=G) w.kept k.slot (by omega) hR;have hrl:=ZM (o:=Jh) (key:=zS.slot) k.slot w.kept;have hn':YV zS.slot k.slot w.kept=false:=hn;rw[hn']at hat;have hw:qH k w.kept=w.kept.take (qo Jh zS.slot k.slot w.kept)++k :: w.kept.drop (qo Jh zS.slot k.slot w.kept):=(h4 hn').2.2 k rfl;have hset:zI (qH k w.kept)=(zI w.kept).take (qo Jh zS.slot k.slot w.kept)++Jw k :: (zI w.kept).drop (qo Jh zS.slot k.slot w.kept):=by rw[hw];simp
 have hsl:(zI (qH k w.kept)).length=(zI w.kept).length+1:=by rw[hset];simp;omega
 refine foF (fun i=>if i=2 then NO [(0,.pure),(1,.pure),(2,.pure),(4,.pure),(5,.pure),(6,.pure),(3,.flt [3,4,5]),(7,.bar),(8,.pure),(9,.pure),(10,.bar)] else []) Tryz.func238 ?_;dsimp only[Tryz.f238];push_cast;refine cl hat ?_;push_cast;refine zm7 [] (Gk (zI w.kept) zW zu (by omega)) (by decide) (by simp) (by push_cast) (by push_cast) (fun r bx' m hp=>?_);obtain ⟨rfl,⟨hne,c,h1,h2,rfl,rfl⟩ | ⟨he,⟨rfl,rfl⟩ | ⟨rfl,rfl⟩⟩⟩:=hp
 ·have hbl:=JB zW h1;have hre:∀ fp fo,C.reL fp fo (qw 4 (zI w.kept) c)=qw 4 (zI w.kept) c:=fun fp fo=>zB (zD zu);have hpos:=WK.2 hne;have hre2:∀ fp fo c,C.reL fp fo (qw 4 (zI (qH k w.kept)) c)=qw 4 (zI (qH k w.kept)) c:=fun fp fo c=>zB (zD zu);push_cast [hre];refine jT [4] [0] (Uj (e:=84) (zI w.kept) (Jw k) (qo Jh zS.slot k.slot w.kept) c zW rfl zu rfl (by omega) (by omega) h1 h2) rfl (by decide) (by decide) (by simp) (by push_cast) (by push_cast [hre]) (fun r bx' m hp=>?_);rw[←hset]at hp;obtain ⟨rfl,c',g1,g2,⟨rfl,rfl⟩ | ⟨rfl,rfl⟩⟩:=hp
  ·push_cast [hre2,hre];exact ⟨[(4,84,4,zI (qH k w.kept),c')],[],zy rfl (by omega) g1 g2 zW zu,rfl,rfl,by push_cast [ze,zd,CLe,zh]⟩
  ·have hra:∀ fp fo,C.reL fp fo (List.replicate (c*4) .any)=List.replicate (c*4) .any:=fun fp fo=>zB (by simp[OK,C.stayB]);push_cast [hre2,hre,hra];exact ⟨[(5,84,4,zI (qH k w.kept),c')],[],zy rfl (by omega) g1 g2 zW zu,rfl,rfl,by push_cast [ze,zd,CLe,zh]⟩
 ·have he:w.kept = []:=by simpa using he
  have hr0:qo Jh zS.slot k.slot w.kept=0:=by rw[he];rfl
  have hs1:qH k w.kept = [k]:=by rw[he];rfl
  push_cast [hr0];refine jT [] [0] (zaj (e:=84) (Jw k) rfl rfl) rfl (by decide) (by decide) (by simp) (by push_cast) (by push_cast) (fun r bx' m hp=>?_);obtain ⟨rfl,c,g1,g2,rfl,rfl⟩:=hp;have hre:∀ fp fo,C.reL fp fo (qw 4 [Jw k] c)=qw 4 [Jw k] c:=fun fp fo=>zB (zD (zu (ks:=[k])));push_cast [hre];exact ⟨[(3,84,4,zI [k],c)],[],zy rfl (by omega) g1 g2 zW zu,rfl,rfl,by push_cast [ze,zd,CLe,zh,hs1]⟩
 ·have he:w.kept = []:=by simpa using he
  have hr0:qo Jh zS.slot k.slot w.kept=0:=by rw[he];rfl
  have hs1:qH k w.kept = [k]:=by rw[he];rfl
  push_cast [hr0];refine jT [3] [0] (Uj (e:=84) [] (Jw k) 0 0 (fun r hr=>by cases hr) rfl (fun r hr=>by cases hr) rfl (by simp) (by simp) (by simp) (by simp)) rfl (by decide) (by decide) (by simp) (by push_cast) (by push_cast [qw]) (fun r bx' m hp=>?_);obtain ⟨rfl,c,g1,g2,hp⟩:=hp;have hre:∀ fp fo,C.reL fp fo (qw 4 [Jw k] c)=qw 4 [Jw k] c:=fun fp fo=>zB (zD (zu (ks:=[k])));rcases hp with ⟨rfl,rfl⟩ | ⟨rfl,rfl⟩
  ·push_cast [hre];exact ⟨[(3,84,4,zI [k],c)],[],zy rfl (WI (AT _) g1) g1 g2 zW zu,rfl,rfl,by push_cast [ze,zd,CLe,zh,hs1]⟩
  ·push_cast [hre];exact ⟨[(4,84,4,zI [k],c)],[],zy rfl (WI (AT _) g1) g1 g2 zW zu,rfl,rfl,by push_cast [ze,zd,CLe,zh,hs1]⟩
theorem xb (f:FsV) (hf:FsI f) (hs:FsS f) (p:Lz) (hp:p.length<=1000000):Fun Tryz.prog G0 229 [.agg (fsC f),.str p] (.tup [.agg (Y8 (isV f p true).1),.agg (Ya (isV f p true).2.1),.sc (.int .i64 (isV f p true).2.2)]) 0:=by
 have h1:=GT f hf hs p hp;have h2:=jk (G:=G0) f (atV f p).1.ino (by have:=hs.len;omega) hf.rises;have e1:(isV f p true).1=(atV f p).1:=rfl;have e2:(isV f p true).2.1=zg (atV f p).1.ino f.xs:=rfl;by_cases h0:(atV f p).2=0
 ·have h0':=eq_true h0;cases hz:zl (atV f p).1.ino f.xs with
  | true =>
   have e3:(isV f p true).2.2=0:=by unfold isV;simp[h0,hz]
   rw[hz]at h2;refine fof (fun i=>if i=4 then NO [(0,.pure),(1,.pure),(2,.pure),(3,.flt [1,2]),(4,.flt [2]),(5,.pure)] else if i=6 then NO [(0,.pure),(1,.pure),(2,.flt [1]),(3,.flt []),(4,.pure)] else if i=7 then NO [(0,.pure),(1,.pure),(2,.flt [1]),(3,.flt []),(4,.pure)] else []) Tryz.func229 ?_;dsimp only[Tryz.f229];push_cast;refine cl h1 ?_;push_cast;refine cl h2 ?_;push_cast [h0'];exact dn (by push_cast [ze,zd,CLe,zh,e1,e2,e3])
  | false =>
   have e3:(isV f p true).2.2=1:=by unfold isV;simp[h0,hz]
   rw[hz]at h2;refine fof (fun i=>if i=4 then NO [(0,.pure),(1,.pure),(2,.pure),(3,.flt [1,2]),(4,.flt [2]),(5,.pure)] else if i=6 then NO [(0,.pure),(1,.pure),(2,.flt [1]),(3,.flt []),(4,.pure)] else if i=7 then NO [(0,.pure),(1,.pure),(2,.flt [1]),(3,.flt []),(4,.pure)] else []) Tryz.func229 ?_;dsimp only[Tryz.f229];push_cast;refine cl h1 ?_;push_cast;refine cl h2 ?_;push_cast [h0'];exact dn (by push_cast [ze,zd,CLe,zh,e1,e2,e3])
 ·have h0':=WR h0;have e3:(isV f p true).2.2=(atV f p).2:=by unfold isV;simp[h0]
  refine fof (fun i=>if i=4 then NO [(0,.pure),(1,.pure),(2,.pure),(3,.flt [1,2]),(4,.flt [2]),(5,.pure)] else if i=6 then NO [(0,.pure),(1,.pure),(2,.flt [1]),(3,.flt []),(4,.pure)] else if i=7 then NO [(0,.pure),(1,.pure),(2,.flt [1]),(3,.flt []),(4,.pure)] else []) Tryz.func229 ?_;dsimp only[Tryz.f229];push_cast;refine cl h1 ?_;push_cast;refine cl h2 ?_;push_cast [h0',ite_self];exact dn (by push_cast [ze,zd,CLe,zh,e1,e2,e3])
end
end
section
open CA CB
open Go.RowKit
section
variable {G:zo}
theorem zhZ (k:zm):Fun Tryz.prog G 235 [.agg (Ya k)] (.sc (.int .i64 k.ino)) 0:=by
 refine fon Tryz.func235 ?_;dsimp only[Tryz.f235];push_cast;exact dn
theorem zay (k:zm) (n:Int):Fun Tryz.prog G 263 [.agg (Ya k),.sc (.int .i64 n),.row [.clo (.func 235) [] []]] (.sc (.int .i64 (Uq k.ino n))) 0:=by
 refine fon Tryz.func263 ?_;dsimp only[Tryz.f263];push_cast;refine cl (zhZ k) ?_;push_cast;refine cl (yU k.ino n) ?_;push_cast;exact dn
theorem x9 (ks:List zm) (n:Int) (hl:ks.length<=100000) (hR:qN Jh zm.ino ks) :
  Fun Tryz.prog G 154 [.sl 6 (zq ks),.sc (.int .i64 n),.clo (.func 263) [] [.row [.clo (.func 235) [] []]]] (.tup [.sc (.int .i64 (qo Jh zm.ino n ks:Nat)),.sc (.bool (YV zm.ino n ks))]) 0:=by
 refine fon Tryz.func154 ?_;dsimp only[Tryz.f154];push_cast;refine loop (fun p:Nat×Nat=>⟨[(0,.sl 6 (zq ks)),(1,.sc (.int .i64 n)),(2,.clo (.func 263) [] [.row [.clo (.func 235) [] []]]),(8,.sc (.int .i64 (ks.length:Nat))),(9,.sc (.int .i64 p.1)),(10,.sc (.int .i64 p.2))],[],0,0⟩)
  (fun p=>p.1<=p.2/\p.2<=ks.length/\(∀ t (h:t<ks.length),t<p.1->(Jh).lt (zm.ino ks[t]) n=true)/\∀ t (h:t<ks.length),p.2<=t->(Jh).lt (zm.ino ks[t]) n=false) (fun p=>p.2-p.1) (0,ks.length) ⟨Wc _,Wb _,fun t _ h=>by (simp at h),fun t h h'=>by (dsimp only at h';omega)⟩ ?_ ?_
 ·exact wk (by push_cast [ze,zd,CLe,zh,We])
 ·rintro ⟨i,j⟩ ⟨h1,h2,h3,h4⟩;dsimp only at h1 h2 h3 h4 ⊢;by_cases h:i<j
  ·obtain ⟨m,hm⟩:∃ m,m=(i+j) / 2:=⟨_,rfl⟩;have hmi:((i:Int)+(j:Int)) / 2=(m:Int):=by omega
   have hml:m<ks.length:=by omega
   have hat:=qR ks m hml;have hlt:=(zdO ks[m].ino n);push_cast [h,hmi,hat]
   repeat refine an ?_
   refine cl ((zay ks[m] n)) ?_;push_cast;cases hc:(Jh).lt (zm.ino ks[m]) n with
   | true =>
    have hcv:(Uq ks[m].ino n<0)=True:=eq_true (hlt.mpr hc);push_cast [hcv]
    repeat refine an ?_
    refine ⟨(m+1,j),⟨by omega,h2,fun t ht hlt2=>?_,h4⟩,by dsimp only;omega,wk⟩;dsimp only at hlt2;rcases Wr t m with q | q
    ·exact (Jh).tr ((WU.1 hR) t m ht hml q) hc
    ·have:t=m:=by omega
     subst this;exact hc
   | false =>
    have hcv:(Uq ks[m].ino n<0)=False:=WR (fun e=>by have h7:(Jh).lt (zm.ino ks[m]) n=true:=hlt.mp e;rw[hc]at h7;cases h7);push_cast [hcv]
    repeat refine an ?_
    refine ⟨(i,m),⟨by omega,by omega,h3,fun t ht hge=>?_⟩,by dsimp only;omega,wk⟩;dsimp only at hge;rcases Wr m t with q | q
    ·cases h9:(Jh).lt (zm.ino ks[t]) n with
     | false=>rfl
     | true=>have:=(Jh).tr ((WU.1 hR) m t hml ht q) h9;rw[hc]at this;cases this
    ·have:t=m:=by omega
     subst this;exact hc
  ·have hij:i=j:=by omega
   subst hij;have hrk:=ZY (o:=Jh) (key:=zm.ino) n ks i h2 h3 h4;push_cast [h];refine br (fun hx=>?_) (fun hx=>?_)
   ·have hx:i<ks.length:=by simpa using hx
    have hat:=qR ks i hx;have hh:=yr n hR hrk hx;push_cast [hx,hat]
    repeat refine an ?_
    refine cl ((zay ks[i] n)) ?_;push_cast;have hcv:decide (Uq ks[i].ino n=0)=YV zm.ino n ks:=by
     rw[hh];exact Ba.2 (zfA ks[i].ino n)
    push_cast [hcv];exact dn (by push_cast [ze,zd,CLe,zh,hrk])
   ·have hx:¬i<ks.length:=by simpa using hx
    have hh:=GH n hR (by omega);push_cast [hx];exact dn (by push_cast [ze,zd,CLe,zh,hrk,hh])
theorem zlG (ks:List zm) (n:Int) (hl:ks.length<=100000) (hR:qN Jh zm.ino ks):Fun Tryz.prog G 234 [.sl 6 (zq ks),.sc (.int .i64 n),.clo (.func 235) [] []] (.tup [.sc (.int .i64 (qo Jh zm.ino n ks:Nat)),.sc (.bool (YV zm.ino n ks))]) 0:=by
 refine fon Tryz.func234 ?_;dsimp only[Tryz.f234];push_cast;refine zp7 [.sl 6 (zq ks),.sc (.int .i64 n),.clo (.func 263) [] [.row [.clo (.func 235) [] []]]] (x9 ks n hl hR) rfl ?_ ?_
 ·simp[XK,XV,C.frz,C.frzL]
 push_cast;exact dn
end
end
section
open CA CB
open Go.RowKit
section
variable {G:zo}
abbrev zoM (w:qC) (kc pc:C):C:=.agg [.sc (.int .i64 w.fs.maxI),.sc (.int .i64 w.fs.maxB),.sc (.int .i64 w.fs.next),.sl 6 (zq w.fs.xs),kc,pc]
def zsj (w:qC) (k:zS) (B:List C) (pn pc:Nat) (r:C) (bx':List (List C)) (m:Nat):Prop:=
 m=0/\∃ (c':Nat) (Ls:List (List C)),(Ls = []∨(∃ X,Ls = [X]/\(X.all C.stayB)=true)∨∃ X Y,Ls = [X,Y]/\(X.all C.stayB)=true/\(Y.all C.stayB)=true)/\(zI (qH k w.kept)).length<=c'/\c'<=9223372036854775807/\r=zoM w (.bs (4+Ls.length) 0 4 (zI (qH k w.kept)).length c') (.bs 0 0 6 pn pc) /\
  bx'=B :: [.any,.any,.any,.any,.any,.any] :: [.any,.any,.any,.any] :: [.any,.any,.any,.any,.any,.any] :: (Ls++[qw 4 (zI (qH k w.kept)) c'])
theorem kI (w:qC) (k:zS) (B:List C) (pn pc:Nat) (hB:(B.all C.stayB)=true) (hl:w.kept.length<=90000) (hR:qN Jh zS.slot w.kept) (hn:zak k.slot w.kept=false):YW Tryz.prog G 238 [zoM w (.sl 4 (zI w.kept)) (.bs 0 0 6 pn pc),.agg (Jw k)] [B] 0 (zsj w k B pn pc):=by
 obtain ⟨_,_,h3,h4⟩:=Ug (o:=Jh) k.slot hR;have hll:(zI w.kept).length=w.kept.length:=We ..;have hat:=yp (G:=G) w.kept k.slot (by omega) hR;have hrl:=ZM (o:=Jh) (key:=zS.slot) k.slot w.kept;have hn':YV zS.slot k.slot w.kept=false:=hn;rw[hn']at hat;have hw:qH k w.kept=w.kept.take (qo Jh zS.slot k.slot w.kept)++k :: w.kept.drop (qo Jh zS.slot k.slot w.kept):=(h4 hn').2.2 k rfl;have hset:zI (qH k w.kept)=(zI w.kept).take (qo Jh zS.slot k.slot w.kept)++Jw k :: (zI w.kept).drop (qo Jh zS.slot k.slot w.kept):=by rw[hw];simp
 have hsl:(zI (qH k w.kept)).length=(zI w.kept).length+1:=by rw[hset];simp;omega
 refine foX (fun i=>if i=2 then NO [(0,.pure),(1,.pure),(2,.pure),(4,.pure),(5,.pure),(6,.pure),(3,.flt [3,4,5]),(7,.bar),(8,.pure),(9,.pure),(10,.bar)] else []) Tryz.func238 ?_;dsimp only[Tryz.f238];have hBr:∀ fp fo,C.reL fp fo B=B:=fun fp fo=>zB hB;push_cast;refine cl hat ?_;push_cast;refine zm7 [] (Gk (zI w.kept) zW zu (by omega)) (by decide) (by simp) (by push_cast) (by push_cast) (fun r bx' m hp=>?_);obtain ⟨rfl,⟨hne,c,h1,h2,rfl,rfl⟩ | ⟨he,⟨rfl,rfl⟩ | ⟨rfl,rfl⟩⟩⟩:=hp
 ·have hbl:=JB zW h1;have hre:∀ fp fo,C.reL fp fo (qw 4 (zI w.kept) c)=qw 4 (zI w.kept) c:=fun fp fo=>zB (zD zu);have hpos:=WK.2 hne;have hre2:∀ fp fo c,C.reL fp fo (qw 4 (zI (qH k w.kept)) c)=qw 4 (zI (qH k w.kept)) c:=fun fp fo c=>zB (zD zu);push_cast [hre,hBr];refine jT [5] [0] (Uj (e:=84) (zI w.kept) (Jw k) (qo Jh zS.slot k.slot w.kept) c zW rfl zu rfl (by omega) (by omega) h1 h2) rfl (by decide) (by decide) (by simp) (by push_cast [hBr]) (by push_cast [hre,hBr]) (fun r bx' m hp=>?_);rw[←hset]at hp;obtain ⟨rfl,c',g1,g2,⟨rfl,rfl⟩ | ⟨rfl,rfl⟩⟩:=hp
  ·push_cast [hre2,hre,hBr];refine ⟨_,_,0,⟨⟨rfl,c',[[]],.inr (.inl ⟨[],rfl,rfl⟩),g1,g2,rfl,rfl⟩,by simp⟩,[],rfl,rfl,?_,by push_cast [ze,zd,CLe,zh]⟩;push_cast [ze,zd,CLe,zh];exact ⟨zP hB,zP (zD zu)⟩
  ·have hra:∀ fp fo,C.reL fp fo (List.replicate (c*4) .any)=List.replicate (c*4) .any:=fun fp fo=>zB (by simp[OK,C.stayB]);push_cast [hre2,hre,hra,hBr];refine ⟨_,_,0,⟨⟨rfl,c',[[],List.replicate (c*4) .any],.inr (.inr ⟨[],_,rfl,rfl,by simp[OK,C.stayB]⟩),g1,g2,rfl,rfl⟩,by simp⟩,[],rfl,rfl,?_,by push_cast [ze,zd,CLe,zh]⟩;push_cast [ze,zd,CLe,zh];exact ⟨zP hB,zP (by simp[OK,C.stayB]),zP (zD zu)⟩
 ·have he:w.kept = []:=by simpa using he
  have hr0:qo Jh zS.slot k.slot w.kept=0:=by rw[he];rfl
  have hs1:qH k w.kept = [k]:=by rw[he];rfl
  push_cast [hr0];refine jT [] [0] (zaj (e:=84) (Jw k) rfl rfl) rfl (by decide) (by decide) (by simp) (by push_cast) (by push_cast) (fun r bx' m hp=>?_);obtain ⟨rfl,c,g1,g2,rfl,rfl⟩:=hp;have hre:∀ fp fo,C.reL fp fo (qw 4 [Jw k] c)=qw 4 [Jw k] c:=fun fp fo=>zB (zD (zu (ks:=[k])));push_cast [hre,hBr];refine ⟨zoM w (.bs 4 0 4 1 c) (.bs 0 0 6 pn pc),B :: [.any,.any,.any,.any,.any,.any] :: [.any,.any,.any,.any] :: [.any,.any,.any,.any,.any,.any] :: ([]++[qw 4 [Jw k] c]),0,⟨⟨rfl,c,[],.inl rfl,by rw[hs1];exact g1,g2,by rw[hs1];rfl,by rw[hs1];rfl⟩,by simp⟩,[],rfl,rfl,?_,by push_cast [ze,zd,CLe,zh]⟩;push_cast [ze,zd,CLe,zh];exact ⟨zP hB,zP (zD (zu (ks:=[k])))⟩
 ·have he:w.kept = []:=by simpa using he
  have hr0:qo Jh zS.slot k.slot w.kept=0:=by rw[he];rfl
  have hs1:qH k w.kept = [k]:=by rw[he];rfl
  push_cast [hr0];refine jT [4] [0] (Uj (e:=84) [] (Jw k) 0 0 (fun r hr=>by cases hr) rfl (fun r hr=>by cases hr) rfl (by simp) (by simp) (by simp) (by simp)) rfl (by decide) (by decide) (by simp) (by push_cast) (by push_cast [qw]) (fun r bx' m hp=>?_);obtain ⟨rfl,c,g1,g2,hp⟩:=hp;have hre:∀ fp fo,C.reL fp fo (qw 4 [Jw k] c)=qw 4 [Jw k] c:=fun fp fo=>zB (zD (zu (ks:=[k])));rcases hp with ⟨rfl,rfl⟩ | ⟨rfl,rfl⟩
  ·push_cast [hre,hBr];refine ⟨zoM w (.bs 4 0 4 1 c) (.bs 0 0 6 pn pc),B :: [.any,.any,.any,.any,.any,.any] :: [.any,.any,.any,.any] :: [.any,.any,.any,.any,.any,.any] :: ([]++[qw 4 [Jw k] c]),0,⟨⟨rfl,c,[],.inl rfl,by rw[hs1];exact g1,g2,by rw[hs1];rfl,by rw[hs1];rfl⟩,by simp⟩,[],rfl,rfl,?_,by push_cast [ze,zd,CLe,zh]⟩;push_cast [ze,zd,CLe,zh];exact ⟨zP hB,zP (zD (zu (ks:=[k])))⟩
  ·push_cast [hre,hBr];refine ⟨zoM w (.bs 5 0 4 1 c) (.bs 0 0 6 pn pc),B :: [.any,.any,.any,.any,.any,.any] :: [.any,.any,.any,.any] :: [.any,.any,.any,.any,.any,.any] :: ([[]]++[qw 4 [Jw k] c]),0,⟨⟨rfl,c,[[]],.inr (.inl ⟨[],rfl,rfl⟩),by rw[hs1];exact g1,g2,by rw[hs1];rfl,by rw[hs1];rfl⟩,by simp⟩,[],rfl,rfl,?_,by push_cast [ze,zd,CLe,zh]⟩;push_cast [ze,zd,CLe,zh];exact ⟨zP hB,zP (zD (zu (ks:=[k])))⟩
end
end
section
open CA CB
open Go.RowKit
theorem jq {bx:List (List C)} {a b:Nat×TypeId×Nat×List (List C)×Nat} (h1:zcX [a] bx) (h2:zcX [b] bx) (hne:a.1≠b.1):zcX [a,b] bx:=⟨by simp[hne],fun x hx=>by
 rcases WH.1 hx with rfl | hx
 ·exact h1.2 _ Wj
 ·exact h2.2 _ hx⟩
theorem zcm (hf:FsI f) {s:zR} (hs:zV f s):(zH f s).xs.length<=f.xs.length:=by
 have hi:=zV.ino hf hs;have hl:=j6 (F:=zj s.name) hf.rises hs.has;unfold zH;split
 ·show (qd _ _).length<=_;exact WJ Zt (by rw[hl];exact Wb _)
 ·show (qp _ _).length<=_;rw[JA (show zZ (qn s.dir (zj s.name) f.xs) from qc hf.rises) ?_,hl]
  ·exact Wb _
  ·show zl (zg s.ino f.xs).ino (qn _ _ _)=true;rw[(zi hi).2.2,zY hs.has];exact hi
theorem zk8 (h:zZ xs):qN Jh zm.ino xs:=List.Pairwise.imp (fun {a b} h=>by show decide (a.ino<b.ino)=true;exact Wn h) h
theorem zkG (x:zm):∀ xs:List zm,ZC x xs=Uf Jh zm.ino x xs
 | []=>rfl
 | y :: r=>by
  unfold ZC Uf;rw[zkG x r];have e:Jh.lt x.ino y.ino=decide (x.ino<y.ino):=rfl;rw[e];by_cases h:x.ino<y.ino
  ·rw[if_pos h,if_pos (Wn h)]
  ·rw[if_neg h,if_neg (by simpa using h)]
theorem zmn (hR:zZ xs) (h:∀ y∈xs,y.ino≠x.ino):qp x xs=xs.take (qo Jh zm.ino x.ino xs)++x :: xs.drop (qo Jh zm.ino x.ino xs):=by
 have h1:qd x.ino xs=xs:=BM.2 fun y hy=>by simpa using h y hy
 have h2:YV zm.ino x.ino xs=false:=by
  unfold YV;rw[Ow];intro y hy;simpa using h y hy
 obtain ⟨_,_,_,h4⟩:=Ug (o:=Jh) x.ino (zk8 hR);unfold qp;rw[h1,zkG];exact (h4 h2).2.2 x rfl
theorem zi0 (w:qC) (hw:Z7 w) (hs:FsS w.fs) (hk:w.kept.length<=90000) (hp:w.pool.length<=90000) (n:Int) (s:zR) (hsp:zV w.fs s) (he:(zg s.ino w.fs.xs).es = []):Fun Tryz.prog G0 196 [Xh w,.sc (.int .i64 n),.agg (Y8 s)] (.tup [Xh (Xm w n s).1,.sc (.int .i64 (Xm w n s).2)]) 0:=by
 have hf:=hw.fs;have hlen:=hs.len;have hino:=hsp.ino hf;have h1:=zdE (G:=G0) w n (by omega) hw.kept;cases hh:zak n w.kept with
 | true =>
  have e:Xm w n s=(w,13):=by unfold Xm;rw[hh];rfl
  rw[hh]at h1;refine fof (fun i=>if i=10 then NO [(0,.pure),(1,.pure),(2,.pure),(4,.pure),(5,.pure),(6,.pure),(3,.flt [3,4,5]),(7,.bar),(8,.pure),(9,.pure),(10,.bar)] else []) Tryz.func196 ?_;dsimp only[Tryz.f196];push_cast;refine cl h1 ?_;push_cast;exact dn (by push_cast [ze,zd,CLe,zh,e])
 | false =>
  rw[hh]at h1;have hg:=jk (G:=G0) w.fs s.ino (by omega) hf.rises;rw[hino]at hg;have hne:s.dir≠s.ino:=fun e=>by
   have:=hsp.there;rw[e,he]at this;cases this
  have hu:=zbq w.fs hf hs s hsp hne;have hul:=zcm hf hsp;have hg2:=jk (G:=G0) (zH w.fs s) s.ino (by omega) (kS hf hsp he).rises;rw[Vb hsp.has hino]at hg2;by_cases hz:(zg s.ino w.fs.xs).links=1
  ·rw[if_pos (show (zg s.ino w.fs.xs).links-1=0 by omega)]at hg2;simp only[decide_true,AR,Oa]at hg2;have hxi:=(zi hino).2.2;have hno:∀ y∈w.pool,y.ino≠s.ino:=fun y hy e=>by
    have:=(hw.apart y hy).1;rw[e,hino]at this;cases this
   have hnk:YV zm.ino s.ino w.pool=false:=by
    unfold YV;rw[Ow];intro y hy;simpa using hno y hy
   have e:Xm w n s=(⟨zH w.fs s,qH ⟨n,s.ino,false,[]⟩ w.kept,qp { zg s.ino w.fs.xs with links:=0,parent:=0 } w.pool⟩,0):=by unfold Xm;rw[hh,if_pos hz];rfl
   have hset:=zmn (x:={ zg s.ino w.fs.xs with links:=0,parent:=0 }) hw.pool (fun y hy=>by rw[show ({ zg s.ino w.fs.xs with links:=0,parent:=0 }:zm).ino=(zg s.ino w.fs.xs).ino from rfl,hxi];exact hno y hy);rw[show ({ zg s.ino w.fs.xs with links:=0,parent:=0 }:zm).ino=s.ino from hxi]at hset;have hat:=zlG (G:=G0) w.pool s.ino (by omega) (zk8 hw.pool);rw[hnk]at hat;have hll:(zq w.pool).length=w.pool.length:=We ..;have hrl:=ZM (o:=Jh) (key:=zm.ino) s.ino w.pool;generalize qo Jh zm.ino s.ino w.pool=r at *;generalize hpl:qp { zg s.ino w.fs.xs with links:=0,parent:=0 } w.pool=pl at *;have hpc:zq pl=(zq w.pool).take r++[.sc (.int .i64 s.ino),.sc (.int .i64 (zg s.ino w.fs.xs).kind),.sc (.int .i64 0),.str (zg s.ino w.fs.xs).data,.sc (.int .i64 0),.sl 2 (zN (zg s.ino w.fs.xs).es)] :: (zq w.pool).drop r:=by rw[hset];simp[hxi]
   have hpl1:(zq pl).length=(zq w.pool).length+1:=by rw[hpc];simp;omega
   have hre2:∀ fp fo c,C.reL fp fo (qw 6 (zq pl) c)=qw 6 (zq pl) c:=fun fp fo c=>zB (zD zt);have hre4:∀ fp fo c,C.reL fp fo (qw 4 (zI (qH ⟨n,s.ino,false,[]⟩ w.kept)) c)=qw 4 (zI (qH ⟨n,s.ino,false,[]⟩ w.kept)) c:=fun fp fo c=>zB (zD zu);have hkp:0<(zI (qH ⟨n,s.ino,false,[]⟩ w.kept)).length:=by rw[We,qH,Uy];omega
   refine foF (fun i=>if i=10 then NO [(0,.pure),(1,.pure),(2,.pure),(4,.pure),(5,.pure),(6,.pure),(3,.flt [3,4,5]),(7,.bar),(8,.pure),(9,.pure),(10,.bar)] else []) Tryz.func196 ?_;dsimp only[Tryz.f196];push_cast;refine cl h1 ?_;push_cast;refine cl hg ?_;push_cast;refine cl hu ?_;push_cast;refine cl hg2 ?_;push_cast;rw[hxi];refine cl hat ?_;push_cast;refine zm7 [] (QC (zq w.pool) zQ zt (by omega)) (by decide) (by simp) (by push_cast) (by push_cast) (fun r0 bx' m hp=>?_);obtain ⟨rfl,⟨hne',c,c1,c2,rfl,rfl⟩ | ⟨hnil,⟨rfl,rfl⟩ | ⟨rfl,rfl⟩⟩⟩:=hp
   ·have hbl:=JB zQ c1;have hre:∀ fp fo,C.reL fp fo (qw 6 (zq w.pool) c)=qw 6 (zq w.pool) c:=fun fp fo=>zB (zD zt);push_cast [hre];refine jT [7] [0] (Ux (e:=96) (zq w.pool) [.sc (.int .i64 s.ino),.sc (.int .i64 (zg s.ino w.fs.xs).kind),.sc (.int .i64 0),.str (zg s.ino w.fs.xs).data,.sc (.int .i64 0),.sl 2 (zN (zg s.ino w.fs.xs).es)] r c zQ rfl zt rfl (by omega) (by omega) c1 c2) rfl (by decide) (by decide) (by simp) (by push_cast) (by push_cast [hre]) (fun r1 bx' m hp=>?_);rw[←hpc]at hp;obtain ⟨rfl,c',g1,g2,⟨rfl,rfl⟩ | ⟨rfl,rfl⟩⟩:=hp
    ·push_cast [hre2,hre];refine jT [7] [] (kI (G:=G0) { w with fs:=zH w.fs s } ⟨n,s.ino,false,[]⟩ (qw 6 (zq pl) c') (zq pl).length c' (zD zt) hk hw.kept hh) rfl (by decide) (by decide) (by simp) (by push_cast) (by push_cast [hre2]) (fun r2 bx' m hp=>?_);obtain ⟨rfl,c3,Ls,hLs,k1,k2,rfl,rfl⟩:=hp;rcases hLs with rfl | ⟨X,rfl,hX⟩ | ⟨X,Y,rfl,hX,hY⟩
     ·push_cast [hre2,hre4];exact ⟨[(11,84,4,zI (qH ⟨n,s.ino,false,[]⟩ w.kept),c3),(7,96,6,zq pl,c')],[],jq (zy rfl (WI hkp k1) k1 k2 zW zu) (zy rfl (by omega) g1 g2 zQ zt) (show (11:Nat)≠7 by decide),rfl,rfl,by push_cast [ze,zd,CLe,zh,e,Ay,W4]⟩
     ·have hXr:∀ fp fo,C.reL fp fo X=X:=fun fp fo=>zB hX;push_cast [hre2,hre4,hXr];exact ⟨[(12,84,4,zI (qH ⟨n,s.ino,false,[]⟩ w.kept),c3),(7,96,6,zq pl,c')],[],jq (zy rfl (WI hkp k1) k1 k2 zW zu) (zy rfl (by omega) g1 g2 zQ zt) (show (12:Nat)≠7 by decide),rfl,rfl,by push_cast [ze,zd,CLe,zh,e,Ay,W4]⟩
     ·have hXr:∀ fp fo,C.reL fp fo X=X:=fun fp fo=>zB hX;have hYr:∀ fp fo,C.reL fp fo Y=Y:=fun fp fo=>zB hY;push_cast [hre2,hre4,hXr,hYr];exact ⟨[(13,84,4,zI (qH ⟨n,s.ino,false,[]⟩ w.kept),c3),(7,96,6,zq pl,c')],[],jq (zy rfl (WI hkp k1) k1 k2 zW zu) (zy rfl (by omega) g1 g2 zQ zt) (show (13:Nat)≠7 by decide),rfl,rfl,by push_cast [ze,zd,CLe,zh,e,Ay,W4]⟩
    ·have hra:∀ fp fo,C.reL fp fo (List.replicate (c*6) .any)=List.replicate (c*6) .any:=fun fp fo=>zB (by simp[OK,C.stayB]);push_cast [hre2,hre,hra];refine jT [8] [] (kI (G:=G0) { w with fs:=zH w.fs s } ⟨n,s.ino,false,[]⟩ (qw 6 (zq pl) c') (zq pl).length c' (zD zt) hk hw.kept hh) rfl (by decide) (by decide) (by simp) (by push_cast) (by push_cast [hre2,hra]) (fun r2 bx' m hp=>?_);obtain ⟨rfl,c3,Ls,hLs,k1,k2,rfl,rfl⟩:=hp;rcases hLs with rfl | ⟨X,rfl,hX⟩ | ⟨X,Y,rfl,hX,hY⟩
     ·push_cast [hre2,hre4,hra];exact ⟨[(12,84,4,zI (qH ⟨n,s.ino,false,[]⟩ w.kept),c3),(8,96,6,zq pl,c')],[],jq (zy rfl (WI hkp k1) k1 k2 zW zu) (zy rfl (by omega) g1 g2 zQ zt) (show (12:Nat)≠8 by decide),rfl,rfl,by push_cast [ze,zd,CLe,zh,e,Ay,W4]⟩
     ·have hXr:∀ fp fo,C.reL fp fo X=X:=fun fp fo=>zB hX;push_cast [hre2,hre4,hra,hXr];exact ⟨[(13,84,4,zI (qH ⟨n,s.ino,false,[]⟩ w.kept),c3),(8,96,6,zq pl,c')],[],jq (zy rfl (WI hkp k1) k1 k2 zW zu) (zy rfl (by omega) g1 g2 zQ zt) (show (13:Nat)≠8 by decide),rfl,rfl,by push_cast [ze,zd,CLe,zh,e,Ay,W4]⟩
     ·have hXr:∀ fp fo,C.reL fp fo X=X:=fun fp fo=>zB hX;have hYr:∀ fp fo,C.reL fp fo Y=Y:=fun fp fo=>zB hY;push_cast [hre2,hre4,hra,hXr,hYr];exact ⟨[(14,84,4,zI (qH ⟨n,s.ino,false,[]⟩ w.kept),c3),(8,96,6,zq pl,c')],[],jq (zy rfl (WI hkp k1) k1 k2 zW zu) (zy rfl (by omega) g1 g2 zQ zt) (show (14:Nat)≠8 by decide),rfl,rfl,by push_cast [ze,zd,CLe,zh,e,Ay,W4]⟩
   ·have hpe:w.pool = []:=by simpa using hnil
    have hr0:r=0:=by rw[hpe]at hrl;exact Nat.le_zero.1 hrl
    subst hr0;have hq:zq pl = [[.sc (.int .i64 s.ino),.sc (.int .i64 (zg s.ino w.fs.xs).kind),.sc (.int .i64 0),.str (zg s.ino w.fs.xs).data,.sc (.int .i64 0),.sl 2 (zN (zg s.ino w.fs.xs).es)]]:=by rw[hpc,hpe];rfl
    push_cast;refine jT [] [0] (u0 (e:=96) [.sc (.int .i64 s.ino),.sc (.int .i64 (zg s.ino w.fs.xs).kind),.sc (.int .i64 0),.str (zg s.ino w.fs.xs).data,.sc (.int .i64 0),.sl 2 (zN (zg s.ino w.fs.xs).es)] rfl rfl) rfl (by decide) (by decide) (by simp) (by push_cast) (by push_cast) (fun r1 bx' m hp=>?_);have hp:m=0/\∃ c,(zq pl).length<=c/\c<=9223372036854775807/\r1 = .bs 0 0 6 (zq pl).length c/\bx' = [qw 6 (zq pl) c]:=by rw[hq];exact hp
    obtain ⟨rfl,c',g1,g2,rfl,rfl⟩:=hp;push_cast [hre2];refine jT [6] [] (kI (G:=G0) { w with fs:=zH w.fs s } ⟨n,s.ino,false,[]⟩ (qw 6 (zq pl) c') (zq pl).length c' (zD zt) hk hw.kept hh) rfl (by decide) (by decide) (by simp) (by push_cast) (by push_cast [hre2]) (fun r2 bx' m hp=>?_);obtain ⟨rfl,c3,Ls,hLs,k1,k2,rfl,rfl⟩:=hp;rcases hLs with rfl | ⟨X,rfl,hX⟩ | ⟨X,Y,rfl,hX,hY⟩
    ·push_cast [hre2,hre4];exact ⟨[(10,84,4,zI (qH ⟨n,s.ino,false,[]⟩ w.kept),c3),(6,96,6,zq pl,c')],[],jq (zy rfl (WI hkp k1) k1 k2 zW zu) (zy rfl (by omega) g1 g2 zQ zt) (show (10:Nat)≠6 by decide),rfl,rfl,by push_cast [ze,zd,CLe,zh,e,Ay,W4]⟩
    ·have hXr:∀ fp fo,C.reL fp fo X=X:=fun fp fo=>zB hX;push_cast [hre2,hre4,hXr];exact ⟨[(11,84,4,zI (qH ⟨n,s.ino,false,[]⟩ w.kept),c3),(6,96,6,zq pl,c')],[],jq (zy rfl (WI hkp k1) k1 k2 zW zu) (zy rfl (by omega) g1 g2 zQ zt) (show (11:Nat)≠6 by decide),rfl,rfl,by push_cast [ze,zd,CLe,zh,e,Ay,W4]⟩
    ·have hXr:∀ fp fo,C.reL fp fo X=X:=fun fp fo=>zB hX;have hYr:∀ fp fo,C.reL fp fo Y=Y:=fun fp fo=>zB hY;push_cast [hre2,hre4,hXr,hYr];exact ⟨[(12,84,4,zI (qH ⟨n,s.ino,false,[]⟩ w.kept),c3),(6,96,6,zq pl,c')],[],jq (zy rfl (WI hkp k1) k1 k2 zW zu) (zy rfl (by omega) g1 g2 zQ zt) (show (12:Nat)≠6 by decide),rfl,rfl,by push_cast [ze,zd,CLe,zh,e,Ay,W4]⟩
   ·have hpe:w.pool = []:=by simpa using hnil
    have hr0:r=0:=by rw[hpe]at hrl;exact Nat.le_zero.1 hrl
    subst hr0;have hq:zq pl = [[.sc (.int .i64 s.ino),.sc (.int .i64 (zg s.ino w.fs.xs).kind),.sc (.int .i64 0),.str (zg s.ino w.fs.xs).data,.sc (.int .i64 0),.sl 2 (zN (zg s.ino w.fs.xs).es)]]:=by rw[hpc,hpe];rfl
    push_cast;refine jT [6] [0] (Ux (e:=96) [] [.sc (.int .i64 s.ino),.sc (.int .i64 (zg s.ino w.fs.xs).kind),.sc (.int .i64 0),.str (zg s.ino w.fs.xs).data,.sc (.int .i64 0),.sl 2 (zN (zg s.ino w.fs.xs).es)] 0 0 (fun r hr=>by cases hr) rfl (fun r hr=>by cases hr) rfl (by simp) (by simp) (by simp) (by simp)) rfl (by decide) (by decide) (by simp) (by push_cast) (by push_cast [qw]) (fun r1 bx' m hp=>?_);have hp:zq5 6 (0*6) (zq pl) r1 bx' m:=by rw[hq];exact hp
    obtain ⟨rfl,c',g1,g2,⟨rfl,rfl⟩ | ⟨rfl,rfl⟩⟩:=hp
    ·push_cast [hre2];refine jT [6] [] (kI (G:=G0) { w with fs:=zH w.fs s } ⟨n,s.ino,false,[]⟩ (qw 6 (zq pl) c') (zq pl).length c' (zD zt) hk hw.kept hh) rfl (by decide) (by decide) (by simp) (by push_cast) (by push_cast [hre2]) (fun r2 bx' m hp=>?_);obtain ⟨rfl,c3,Ls,hLs,k1,k2,rfl,rfl⟩:=hp;rcases hLs with rfl | ⟨X,rfl,hX⟩ | ⟨X,Y,rfl,hX,hY⟩
     ·push_cast [hre2,hre4];exact ⟨[(10,84,4,zI (qH ⟨n,s.ino,false,[]⟩ w.kept),c3),(6,96,6,zq pl,c')],[],jq (zy rfl (WI hkp k1) k1 k2 zW zu) (zy rfl (by omega) g1 g2 zQ zt) (show (10:Nat)≠6 by decide),rfl,rfl,by push_cast [ze,zd,CLe,zh,e,Ay,W4]⟩
     ·have hXr:∀ fp fo,C.reL fp fo X=X:=fun fp fo=>zB hX;push_cast [hre2,hre4,hXr];exact ⟨[(11,84,4,zI (qH ⟨n,s.ino,false,[]⟩ w.kept),c3),(6,96,6,zq pl,c')],[],jq (zy rfl (WI hkp k1) k1 k2 zW zu) (zy rfl (by omega) g1 g2 zQ zt) (show (11:Nat)≠6 by decide),rfl,rfl,by push_cast [ze,zd,CLe,zh,e,Ay,W4]⟩
     ·have hXr:∀ fp fo,C.reL fp fo X=X:=fun fp fo=>zB hX;have hYr:∀ fp fo,C.reL fp fo Y=Y:=fun fp fo=>zB hY;push_cast [hre2,hre4,hXr,hYr];exact ⟨[(12,84,4,zI (qH ⟨n,s.ino,false,[]⟩ w.kept),c3),(6,96,6,zq pl,c')],[],jq (zy rfl (WI hkp k1) k1 k2 zW zu) (zy rfl (by omega) g1 g2 zQ zt) (show (12:Nat)≠6 by decide),rfl,rfl,by push_cast [ze,zd,CLe,zh,e,Ay,W4]⟩
    ·push_cast [hre2];refine jT [7] [] (kI (G:=G0) { w with fs:=zH w.fs s } ⟨n,s.ino,false,[]⟩ (qw 6 (zq pl) c') (zq pl).length c' (zD zt) hk hw.kept hh) rfl (by decide) (by decide) (by simp) (by push_cast) (by push_cast [hre2]) (fun r2 bx' m hp=>?_);obtain ⟨rfl,c3,Ls,hLs,k1,k2,rfl,rfl⟩:=hp;rcases hLs with rfl | ⟨X,rfl,hX⟩ | ⟨X,Y,rfl,hX,hY⟩
     ·push_cast [hre2,hre4];exact ⟨[(11,84,4,zI (qH ⟨n,s.ino,false,[]⟩ w.kept),c3),(7,96,6,zq pl,c')],[],jq (zy rfl (WI hkp k1) k1 k2 zW zu) (zy rfl (by omega) g1 g2 zQ zt) (show (11:Nat)≠7 by decide),rfl,rfl,by push_cast [ze,zd,CLe,zh,e,Ay,W4]⟩
     ·have hXr:∀ fp fo,C.reL fp fo X=X:=fun fp fo=>zB hX;push_cast [hre2,hre4,hXr];exact ⟨[(12,84,4,zI (qH ⟨n,s.ino,false,[]⟩ w.kept),c3),(7,96,6,zq pl,c')],[],jq (zy rfl (WI hkp k1) k1 k2 zW zu) (zy rfl (by omega) g1 g2 zQ zt) (show (12:Nat)≠7 by decide),rfl,rfl,by push_cast [ze,zd,CLe,zh,e,Ay,W4]⟩
     ·have hXr:∀ fp fo,C.reL fp fo X=X:=fun fp fo=>zB hX;have hYr:∀ fp fo,C.reL fp fo Y=Y:=fun fp fo=>zB hY;push_cast [hre2,hre4,hXr,hYr];exact ⟨[(13,84,4,zI (qH ⟨n,s.ino,false,[]⟩ w.kept),c3),(7,96,6,zq pl,c')],[],jq (zy rfl (WI hkp k1) k1 k2 zW zu) (zy rfl (by omega) g1 g2 zQ zt) (show (13:Nat)≠7 by decide),rfl,rfl,by push_cast [ze,zd,CLe,zh,e,Ay,W4]⟩
  ·have hz2:¬(zg s.ino w.fs.xs).links-1=0:=by omega
   rw[if_neg hz2,hino]at hg2;have e:Xm w n s=({ w with fs:=zH w.fs s,kept:=qH ⟨n,s.ino,false,[]⟩ w.kept },0):=by unfold Xm;rw[hh,if_neg hz];rfl
   have hwi:=zg1 (G:=G0) { w with fs:=zH w.fs s } ⟨n,s.ino,false,[]⟩ hk hw.kept hh;refine fof (fun i=>if i=10 then NO [(0,.pure),(1,.pure),(2,.pure),(4,.pure),(5,.pure),(6,.pure),(3,.flt [3,4,5]),(7,.bar),(8,.pure),(9,.pure),(10,.bar)] else []) Tryz.func196 ?_;dsimp only[Tryz.f196];push_cast;refine cl h1 ?_;push_cast;refine cl hg ?_;push_cast;refine cl hu ?_;push_cast;refine cl hg2 ?_;push_cast;refine cl hwi ?_;push_cast;exact dn (by push_cast [ze,zd,CLe,zh,e])
end
section
open CA CB
open Go.RowKit
end
section
open CA CB
open Go.RowKit
theorem zpG (hf:FsI f) (p:Lz):(atV f p).1.ino≠0->zl (atV f p).1.ino f.xs=true:=by
 unfold atV;split
 ·exact v8 hf (zF p) ⟨0,[],1⟩ fun _=>hf.root
 ·intro h;exact absurd rfl h
theorem zlr (hf:FsI f) (p:Lz):zl (atV f p).1.ino f.xs = !decide ((atV f p).1.ino=0):=by
 by_cases h:(atV f p).1.ino=0
 ·rw[Wn h];cases hh:zl (atV f p).1.ino f.xs with
  | false=>rfl
  | true=>exact absurd h (VP hf hh)
 ·rw[zpG hf p h,Wm h];rfl
theorem za8 (f:FsV) (hf:FsI f) (hs:FsS f) (p:Lz) (hp:p.length<=1000000):Fun Tryz.prog G0 224 [.agg (fsC f),.str p] (.tup [.agg (Y8 (isV f p false).1),.sc (.int .i64 (isV f p false).2.2)]) 0:=by
 have h1:=GT f hf hs p hp;have hi:=zlr hf p;have e1:(isV f p false).1=(atV f p).1:=rfl;by_cases h0:(atV f p).2=0
 ·have h0':=eq_true h0;by_cases hz:(atV f p).1.ino=0
  ·have hz':=eq_true hz;rw[Wn hz]at hi;have e3:(isV f p false).2.2=0:=by unfold isV;simp[h0,hi]
   refine fon Tryz.func224 ?_;dsimp only[Tryz.f224];push_cast;refine cl h1 ?_;push_cast [h0',hz'];exact dn (by push_cast [ze,zd,CLe,zh,e1,e3])
  ·have hz':=WR hz;rw[Wm hz]at hi;have e3:(isV f p false).2.2=2:=by unfold isV;simp[h0,hi]
   refine fon Tryz.func224 ?_;dsimp only[Tryz.f224];push_cast;refine cl h1 ?_;push_cast [h0',hz'];exact dn (by push_cast [ze,zd,CLe,zh,e1,e3])
 ·have h0':=WR h0;have e3:(isV f p false).2.2=(atV f p).2:=by unfold isV;simp[h0]
  refine fon Tryz.func224 ?_;dsimp only[Tryz.f224];push_cast;refine cl h1 ?_;push_cast [h0'];exact dn (by push_cast [ze,zd,CLe,zh,e1,e3])
structure zfd (w:qC):Prop where
 fs:FsS w.fs
 next:zpF w.fs
 kept:w.kept.length<=10000
 pool:w.pool.length<=10000
theorem zje (w:qC) (hw:Z7 w) (hs:zfd w) (p:Lz) (hp:p.length<=1000000) (hpl:qK p=true) (k:Int) (t:Lz) (ht:t.length<=10000):Fun Tryz.prog G0 187 [Xh w,.str p,.sc (.int .i64 k),.str t] (.tup [Xh (Yo w p k t).1,.sc (.int .i64 (Yo w p k t).2)]) 0:=by
 have h1:=za8 w.fs hw.fs hs.fs p hp;by_cases h0:(isV w.fs p false).2.2=0
 ·have h0':=eq_true h0;have hfr:=JQ hw.fs hpl h0;have hln:=zgZ hw.fs hpl (Vt h0);have hln:(isV w.fs p false).1.name.length<=300:=hln;have hc:=zcb w.fs hw.fs hs.fs hs.next (isV w.fs p false).1 hfr (by omega) k t (by omega);have e:Yo w p k t=({ w with fs:=(Hc w.fs (isV w.fs p false).1 k t).1 },(Hc w.fs (isV w.fs p false).1 k t).2):=by unfold Yo;rw[if_neg (by simp[h0])]
  refine fon Tryz.func187 ?_;dsimp only[Tryz.f187];push_cast;refine cl h1 ?_;push_cast [h0'];refine cl hc ?_;push_cast;exact dn (by push_cast [ze,zd,CLe,zh,e])
 ·have h0':=WR h0;have e:Yo w p k t=(w,(isV w.fs p false).2.2):=by unfold Yo;rw[if_pos h0]
  refine fon Tryz.func187 ?_;dsimp only[Tryz.f187];push_cast;refine cl h1 ?_;push_cast [h0'];exact dn (by push_cast [ze,zd,CLe,zh,e])
end
section
open CA CB
open Go.RowKit
theorem zbJ (w:qC) (hw:Z7 w) (hs:zfd w) (o:OpV) (ho:xX o) (pa:qK o.a=true) (pb:qK o.b=true):Fun Tryz.prog G0 191 [Xh w,.agg (opL o)] (.tup [Xh (jL w o).1,.sc (.int .i64 (jL w o).2)]) 0:=by
 have h1:=xb w.fs hw.fs hs.fs o.a ho.1;have h2:=za8 w.fs hw.fs hs.fs o.b ho.2.1;unfold opL;by_cases h0:(isV w.fs o.a true).2.2=0
 ·have h0':=eq_true h0;obtain ⟨t1,t2⟩:=jR hw.fs pa h0;have hi:=zV.ino hw.fs t1;have hino:(isV w.fs o.a true).2.1.ino=(isV w.fs o.a true).1.ino:=by rw[t2,(zi hi).2.2]
  by_cases hk:(isV w.fs o.a true).2.1.kind=2
  ·have hk':=eq_true hk;have e:jL w o=(w,11):=by unfold jL;simp[h0,hk]
   refine fon Tryz.func191 ?_;dsimp only[Tryz.f191];push_cast;refine cl h1 ?_;push_cast [h0',hk'];exact dn (by push_cast [ze,zd,CLe,zh,e])
  ·have hk':=WR hk;by_cases hb:(isV w.fs o.b false).2.2=0
   ·have hb':=eq_true hb;have hfree:=JQ hw.fs pb hb;have hne:(isV w.fs o.b false).1.dir≠(isV w.fs o.a true).2.1.ino:=fun e=>by
     rw[hino]at e;have:=hfree.kind;rw[e,←t2]at this;exact hk this
    have hn:=zky w.fs hw.fs hs.fs (isV w.fs o.b false).1 hfree (isV w.fs o.a true).2.1.ino (by rw[hino];exact hi) hne;have e:jL w o=({ w with fs:=Zq w.fs (isV w.fs o.b false).1 (isV w.fs o.a true).2.1.ino },0):=by unfold jL;simp[h0,hk,hb]
    refine fon Tryz.func191 ?_;dsimp only[Tryz.f191];push_cast;refine cl h1 ?_;push_cast [h0',hk'];refine cl h2 ?_;push_cast [hb'];refine cl hn ?_;push_cast;exact dn (by push_cast [ze,zd,CLe,zh,e,hb])
   ·have hb':=WR hb;have e:jL w o=(w,(isV w.fs o.b false).2.2):=by unfold jL;simp[h0,hk,hb]
    refine fon Tryz.func191 ?_;dsimp only[Tryz.f191];push_cast;refine cl h1 ?_;push_cast [h0',hk'];refine cl h2 ?_;push_cast [hb'];exact dn (by push_cast [ze,zd,CLe,zh,e])
 ·have h0':=WR h0;have e:jL w o=(w,(isV w.fs o.a true).2.2):=by unfold jL;simp[h0]
  refine fon Tryz.func191 ?_;dsimp only[Tryz.f191];push_cast;refine cl h1 ?_;push_cast [h0'];exact dn (by push_cast [ze,zd,CLe,zh,e])
end
section
open CA CB
open Go.RowKit
theorem zb6 (w:qC) (hw:Z7 w) (hs:zfd w) (o:OpV) (s:zR) (hsp:zV w.fs s) (he:(zg s.ino w.fs.xs).es = []):xh Tryz.prog G0 195 [.agg (Y8 s),.ptr 0 0,.ptr 1 0] [HL w,opL o] 0 (.tup [Xh (Xm w o.slot s).1,.sc (.int .i64 (Xm w o.slot s).2)]) [HL w,opL o] 0:=by
 have h:=zi0 w hw hs.fs (by have:=hs.kept;omega) (by have:=hs.pool;omega) o.slot s hsp he;unfold opL;refine foB (fun _=>[]) Tryz.func195 ?_;dsimp only[Tryz.f195];push_cast;refine cl h ?_;push_cast;exact ⟨[],rfl,rfl,by push_cast [ze,zd,CLe,zh],by push_cast [ze,zd,CLe,zh]⟩
theorem zi6 (w:qC) (hw:Z7 w) (hs:zfd w) (o:OpV) (ho:xX o) (pa:qK o.a=true):xh Tryz.prog G0 194 [Xh w,.str o.a,.clo (.func 195) [] [.ptr 0 0,.ptr 1 0]] [HL w,opL o] 0 (.tup [Xh (qV w o).1,.sc (.int .i64 (qV w o).2)]) [HL w,opL o] 0:=by
 have h1:=xb w.fs hw.fs hs.fs o.a ho.1;by_cases h0:(isV w.fs o.a true).2.2=0
 ·have h0':=eq_true h0;obtain ⟨t1,t2⟩:=jR hw.fs pa h0;by_cases hes:(isV w.fs o.a true).2.1.es = []
  ·have hel:(0<(zN (isV w.fs o.a true).2.1.es).length)=False:=WR (by rw[hes];simp);have he:(zg (isV w.fs o.a true).1.ino w.fs.xs).es = []:=by rw[←t2];exact hes
   have hd:=zb6 w hw hs o (isV w.fs o.a true).1 t1 he;have e:qV w o=Xm w o.slot (isV w.fs o.a true).1:=by unfold qV;simp[h0,hes]
   unfold opL at hd ⊢;refine foB (fun _=>[]) Tryz.func194 ?_;dsimp only[Tryz.f194];push_cast;refine cl h1 ?_;push_cast [h0',hel];refine Xc [0,1] [] hd rfl (by decide) (by decide) (by simp) (by push_cast) (by push_cast) ?_;push_cast;exact ⟨[],rfl,rfl,by push_cast [ze,zd,CLe,zh],by push_cast [ze,zd,CLe,zh,e]⟩
  ·have hel:(0<(zN (isV w.fs o.a true).2.1.es).length)=True:=eq_true (by rw[We];exact WK.2 hes);have e:qV w o=(w,5):=by unfold qV;simp[h0,hes]
   unfold opL;refine foB (fun _=>[]) Tryz.func194 ?_;dsimp only[Tryz.f194];push_cast;refine cl h1 ?_;push_cast [h0',hel];exact ⟨[],rfl,rfl,by push_cast [ze,zd,CLe,zh],by push_cast [ze,zd,CLe,zh,e]⟩
 ·have h0':=WR h0;have e:qV w o=(w,(isV w.fs o.a true).2.2):=by unfold qV;simp[h0]
  unfold opL;refine foB (fun _=>[]) Tryz.func194 ?_;dsimp only[Tryz.f194];push_cast;refine cl h1 ?_;push_cast [h0'];exact ⟨[],rfl,rfl,by push_cast [ze,zd,CLe,zh],by push_cast [ze,zd,CLe,zh,e]⟩
theorem zgh (w:qC) (hw:Z7 w) (hs:zfd w) (o:OpV) (ho:xX o) (pa:qK o.a=true) (hd:o.d.length<=10000):Fun Tryz.prog G0 190 [Xh w,.agg (opL o)] (.tup [Xh (Yo w o.a 3 o.d).1,.sc (.int .i64 (Yo w o.a 3 o.d).2)]) 0:=by
 have h:=zje w hw hs o.a ho.1 pa 3 o.d hd;unfold opL;refine fon Tryz.func190 ?_;dsimp only[Tryz.f190];push_cast;refine cl h ?_;push_cast;exact dn
theorem zdZ (w:qC) (hw:Z7 w) (hs:zfd w) (o:OpV) (ho:xX o) (pa:qK o.a=true):Fun Tryz.prog G0 193 [Xh w,.agg (opL o)] (.tup [Xh (qV w o).1,.sc (.int .i64 (qV w o).2)]) 0:=by
 have h:=zi6 w hw hs o ho pa;unfold opL at h ⊢;refine fon Tryz.func193 ?_;dsimp only[Tryz.f193];push_cast;refine Xc [0,1] [] h rfl (by decide) (by decide) (by simp) (by push_cast) (by push_cast) ?_;push_cast;exact dn
end
section
open Go.RowKit
section
variable {G:zo}
abbrev zpC:List C:=[.clo (.func 186) [] [],.clo (.func 188) [] [],.clo (.func 189) [] [],.clo (.func 190) [] [],.clo (.func 191) [] [],.clo (.func 192) [] [],.clo (.func 193) [] [],.clo (.func 197) [] [],.clo (.func 200) [] [],.clo (.func 201) [] []]
theorem UX:Fun Tryz.prog G 160 [] (.mo 0 196 (.int .i64 [1,2,3,4,5,6,7,8,9,10]) zpC) 1:=by
 refine fon Tryz.func160 ?_;dsimp only[Tryz.f160];push_cast [Hs,Up,Ok,Ox,Od,reduceIte,Int.reduceEq];exact ⟨[.inl 0],rfl,rfl,by push_cast [ze,zd,CLe,zh]⟩
end
end
section
open CA CB
open Go.RowKit
theorem Fun.g0 {G':zo} {f:FuncId} {n:Nat} (h:Fun P G0 f args r n):Fun P G' f args r n:=⟨h.1,fun R vs hg hv=>h.2 R vs (yo R) hv⟩
end
section
open Go.RowKit
section
variable {G:zo}
theorem V3 (o:OpV):Fun Tryz.prog G 110 [.agg (opL o)] (.sc (.bool (decide (o.kind=3∨o.kind=7)))) 0:=by
 unfold opL;by_cases h:o.kind=3
 ·have h':=eq_true h;refine fon Tryz.func110 ?_;dsimp only[Tryz.f110];push_cast [h'];exact dn (by push_cast [ze,zd,CLe,zh,h',true_or,decide_true])
 ·have h':=WR h;refine fon Tryz.func110 ?_;dsimp only[Tryz.f110];push_cast [h'];exact dn (by push_cast [ze,zd,CLe,zh,h',false_or])
end
end
section
open Go.RowKit
abbrev zpq (d:qh):List C:=[.sc (.int .i64 d.w.fs.maxI),.sc (.int .i64 d.w.fs.maxB),.sc (.int .i64 d.w.fs.next),.sl 6 (zq d.w.fs.xs),.sl 4 (zI d.w.kept),.sl 6 (zq d.w.pool),.sl 5 (d.ops.map opL),.sl 1 (zL d.diags),.sc (.int .i64 d.status),.sc (.int .i64 d.slot)]
abbrev Hr (d:qh):C:=.agg (zpq d)
section
variable {G:zo}
end
end
section
open CA CB
open Go.RowKit
section
variable {G:zo}
end
end
section
open CA CB
open Go.RowKit
theorem ziU {f:C} (hx:x.es = []) (R:Env) (vs:List Value) (h:zw R zJ [f,.agg [.sc (.int .i64 x.ino),.sc (.int .i64 x.kind),.sc (.int .i64 x.links),.str x.data,.sc (.int .i64 x.parent),.sc (.slice none 0 0)]] vs):zw R zJ [f,.agg (Ya x)] vs:=by
 obtain ⟨v1,us1,rfl,h1,h⟩:=zf.1 h;obtain ⟨v2,us2,rfl,h2,h⟩:=zf.1 h;refine zf.2 ⟨_,_,rfl,h1,zf.2 ⟨_,_,rfl,?_,h⟩⟩;obtain ⟨ws,rfl,hw⟩:=jU.1 h2;obtain ⟨w1,t1,e1,g1,hw⟩:=zf.1 hw;obtain ⟨w2,t2,e2,g2,hw⟩:=zf.1 hw;obtain ⟨w3,t3,e3,g3,hw⟩:=zf.1 hw;obtain ⟨w4,t4,e4,g4,hw⟩:=zf.1 hw;obtain ⟨w5,t5,e5,g5,hw⟩:=zf.1 hw;obtain ⟨w6,t6,e6,g6,hw⟩:=zf.1 hw;refine jU.2 ⟨ws,rfl,?_⟩;have g6':Rep R zJ (.sl 2 (zN x.es)) w6:=by rw[hx];exact zaw g6
 rw[e1,e2,e3,e4,e5,e6];exact zf.2 ⟨_,_,rfl,g1,zf.2 ⟨_,_,rfl,g2,zf.2 ⟨_,_,rfl,g3,zf.2 ⟨_,_,rfl,g4,zf.2 ⟨_,_,rfl,g5,zf.2 ⟨_,_,rfl,g6',hw⟩⟩⟩⟩⟩⟩
theorem zax (f:FsV) (x:zm) (hx:x.es = []) (hl:f.xs.length<=90000) :
  Fun Tryz.prog G 97 [.agg (fsC f),.agg [.sc (.int .i64 x.ino),.sc (.int .i64 x.kind),.sc (.int .i64 x.links),.str x.data,.sc (.int .i64 x.parent),.sc (.slice none 0 0)]] (.agg [.sc (.int .i64 f.maxI),.sc (.int .i64 f.maxB),.sc (.int .i64 f.next),.own 0 96 6 (zq (qp x f.xs))]) 1:=
 (uX f x hl).argsLe (ziU hx)
end
section
open CA CB
open Go.RowKit
theorem U7 {i:Nat} (h:i<ks.length):Jg (ks.take (i+1))=ks[i].slot:=by
 have q:(ks.take (i+1)).getLast?=some ks[i]:=by
  rw[List.getLast?_eq_getElem?,show (ks.take (i+1)).length-1=i by rw[W5];omega,Bl (by omega),Wa h]
 unfold Jg;rw[q]
section
variable {G:zo}
theorem U0 (w:qC):Fun Tryz.prog G 114 [Xh w] (.agg [.sc (.int .i64 0),.sc (.int .i64 0),.sc (.int .i64 0),.sl 6 (zq w.pool)]) 0:=by
 refine fon Tryz.func114 ?_;dsimp only[Tryz.f114];push_cast;exact dn
theorem kG (w:qC) (hk:w.kept.length<=100000) (hR:qN Jh zS.slot w.kept) (hp:∀ k∈w.kept,1<=k.slot):Fun Tryz.prog G 29 [Xh w] (.sc (.int .i64 (Jg w.kept))) 0:=by
 obtain ⟨f,ks,pool⟩:=w;have hk:ks.length<=100000:=hk;have hll:(zI ks).length=ks.length:=We ..;show Fun Tryz.prog G 29 [Xh ⟨f,ks,pool⟩] (.sc (.int .i64 (Jg ks))) 0;have h0:Jg []=0:=rfl;refine fon Tryz.func29 ?_;dsimp only[Tryz.f29];push_cast;refine loop (fun i:Nat=>⟨[(1,.ptr 0 0),(3,.sc (.int .i64 (Jg (ks.take i)))),(4,.sc (.int .i64 i))],[HL ⟨f,ks,pool⟩],0,0⟩) (fun i=>i<=ks.length) (fun i=>ks.length-i) 0 (Wc _) ?_ ?_
 ·exact wk (by push_cast [ze,zd,CLe,zh,OD,h0])
 ·intro i hi;by_cases h:i<ks.length
  ·have g1:=j5 ks i h;have e1:Jg (ks.take (i+1))=ks[i].slot:=U7 h;have e2:(if ks[i].slot>Jg (ks.take i) then ks[i].slot else Jg (ks.take i))=ks[i].slot:=by
    suffices hle:Jg (ks.take i)<=ks[i].slot by split<;>omega
    rcases O4 i with rfl | hpos
    ·have:=hp _ (Wv h);show (0:Int)<=_;omega
    ·obtain ⟨j,rfl⟩:∃ j,i=j+1:=⟨i-1,by omega⟩;have hj:j<ks.length:=by omega
     rw[U7 hj];have:=(WU.1 hR) j (j+1) hj h (by omega);have:ks[j].slot<ks[j+1].slot:=WN this;omega
   push_cast [hll,h,g1]
   repeat refine an ?_
   exact ⟨i+1,h,by omega,wk (by push_cast [ze,zd,CLe,zh,e1,e2])⟩
  ·rw[Wg (by omega)];push_cast [hll,h];exact dn
end
end
section
open CA CB
open Go.RowKit
end
section
open CA CB
open Go.RowKit
def zsu (n:Int):List C:=[.sc (.int .i64 n)]
abbrev zrM (l:List Int):List (List C):=l.map zsu
theorem vR (l:List Int):(zrM l).length=l.length:=We _
theorem zga (l:List Int) (n:Int):zrM l++[[.sc (.int .i64 n)]]=zrM (l++[n]):=by simp[zsu]
attribute [push_cast] vR zga
abbrev zhv (l:List OpV):List (List C):=l.map opL
theorem v6 (l:List OpV):(zhv l).length=l.length:=We _
theorem zhm (l:List OpV) (k:Nat) (h:k<l.length):(zhv l)[k]?=some (opL (l[k]'h)):=by rw[Ww,Wa h];rfl
theorem zg2 (l:List OpV) (k:Nat):(zhv l).take k=zhv (l.take k):=List.map_take.symm
theorem zdJ (l:List OpV) (k:Nat):(zhv l).drop k=zhv (l.drop k):=List.map_drop.symm
attribute [push_cast] v6 zg2 zdJ
end
section
open Go.RowKit
def zk2 (l:List OpV):List Int:=(l.filter fun o=>GW o.kind).map (·.slot)
end
section
open Go.RowKit
def zkT (o p:OpV):Bool:=decide (o.kind=p.kind)&&decide (o.slot=p.slot)&&decide (o.a=p.a)&&decide (o.b=p.b)&&decide (o.d=p.d)
def Js:List OpV->List OpV->Bool
 | [],[]=>true
 | o :: r,p :: s=>zkT o p&&Js r s
 | _,_=>false
theorem Ym:∀ l m:List OpV,Js l m=true↔l.length=m.length/\∀ (j:Nat) (h:j<l.length) (h':j<m.length),zkT (l[j]'h) (m[j]'h')=true
 | [],[]=>by simp[Js]
 | [],p :: s=>by simp[Js]
 | o :: r,[]=>by simp[Js]
 | o :: r,p :: s=>by
  have ih:=Ym r s;simp only[Js,Wt,ih,Wh];constructor
  ·rintro ⟨h1,h2,h3⟩;refine ⟨by omega,fun j hj hj'=>?_⟩;cases j with
   | zero=>exact h1
   | succ j=>exact h3 j (by omega) (by omega)
  ·rintro ⟨h1,h2⟩;exact ⟨h2 0 (by omega) (by omega),by omega,fun j hj hj'=>h2 (j+1) (by omega) (by omega)⟩
end
section
open CA CB
open Go.RowKit
end
section
open CA CB
open Go.RowKit
end
section
open CA CB
open Go.RowKit
def Jr (f:FsV):Prop:=1<=f.maxI/\f.maxI<=1073741824/\0<=f.maxB/\f.maxB<=1073741824/\f.next<=1099511627776/\(∀ x∈f.xs,1<=x.ino/\x.ino<f.next)/\zZ f.xs/\zl 1 f.xs=true/\(zg 1 f.xs).kind=2
instance (f:FsV):Decidable (Jr f):=by unfold Jr;infer_instance
def YB (f:FsV):Prop:=∀ x∈f.xs,∀ e∈x.es,zl e.ino f.xs=true
instance (f:FsV):Decidable (YB f):=by unfold YB;infer_instance
def Hz (f:FsV):Prop:=(f.xs.length:Int)<=f.maxI/\(z7 f.xs:Int)<=f.maxB
instance (f:FsV):Decidable (Hz f):=by unfold Hz;infer_instance
theorem qm {l:List α} {i:Nat} (h:i<l.length) {P:α->Prop} (h1:∀ x∈l.take i,P x) (h2:P l[i]):∀ x∈l.take (i+1),P x:=fun x hx=>by
 rw[WX,Wa h]at hx;rcases WD.1 hx with hx | hx
 ·exact h1 x hx
 ·simp at hx;subst hx;exact h2
section
variable {G:zo}
theorem xf (f:FsV) (hl:f.xs.length<=100000):Fun Tryz.prog G 162 [.agg (fsC f)] (.sc (.bool (decide (Jr f)))) 0:=by
 have hll:(zq f.xs).length=f.xs.length:=We ..;refine fon Tryz.func162 ?_;dsimp only[Tryz.f162];by_cases e0:f.maxI<1
 case pos =>
  have hn:¬Jr f:=fun h=>by have:=h.1;omega
  push_cast [e0];exact dn (by push_cast [ze,zd,CLe,zh,hn])
 by_cases e1:1073741824<f.maxI
 case pos =>
  have hn:¬Jr f:=fun h=>by have:=h.2.1;omega
  push_cast [e0,e1];exact dn (by push_cast [ze,zd,CLe,zh,hn])
 by_cases e2:f.maxB<0
 case pos =>
  have hn:¬Jr f:=fun h=>by have:=h.2.2.1;omega
  push_cast [e0,e1,e2];exact dn (by push_cast [ze,zd,CLe,zh,hn])
 by_cases e3:1073741824<f.maxB
 case pos =>
  have hn:¬Jr f:=fun h=>by have:=h.2.2.2.1;omega
  push_cast [e0,e1,e2,e3];exact dn (by push_cast [ze,zd,CLe,zh,hn])
 by_cases e4:1099511627776<f.next
 case pos =>
  have hn:¬Jr f:=fun h=>by have:=h.2.2.2.2.1;omega
  push_cast [e0,e1,e2,e3,e4];exact dn (by push_cast [ze,zd,CLe,zh,hn])
 push_cast [e0,e1,e2,e3,e4];refine loop (fun i:Nat=>⟨[(1,.ptr 0 0),(3,.sc (.int .i64 i))],[fsC f],0,0⟩) (fun i=>i<=f.xs.length/\∀ x∈f.xs.take i,1<=x.ino/\x.ino<f.next) (fun i=>f.xs.length-i) 0 ⟨Wc _,fun x hx=>by simp at hx⟩ ?_ ?_
 ·exact wk
 ·rintro i ⟨h1,h2⟩;by_cases h:i<f.xs.length
  ·have g1:=qR f.xs i h;by_cases c1:f.xs[i].ino<1
   ·have hn:¬Jr f:=fun h'=>by have:=h'.2.2.2.2.2.1 _ (Wv h);omega
    push_cast [hll,h,g1,c1]
    repeat refine an ?_
    exact dn (by push_cast [ze,zd,CLe,zh,hn])
   ·by_cases c2:f.next<=f.xs[i].ino
    ·have hn:¬Jr f:=fun h'=>by have:=h'.2.2.2.2.2.1 _ (Wv h);omega
     push_cast [hll,h,g1,c1,c2]
     repeat refine an ?_
     exact dn (by push_cast [ze,zd,CLe,zh,hn])
    ·push_cast [hll,h,g1,c1,c2]
     repeat refine an ?_
     exact ⟨i+1,⟨h,qm h h2 (by omega)⟩,by omega,wk⟩
  ·rw[Wg (by omega)]at h2;have hf:Jr f↔zZ f.xs/\zl 1 f.xs=true/\(zg 1 f.xs).kind=2:=⟨fun h=>h.2.2.2.2.2.2,fun h=>⟨by omega,by omega,by omega,by omega,by omega,h2,h⟩⟩;push_cast [hll,h];refine cl (Qr f 1 hl) ?_;push_cast;by_cases c1:zZ f.xs
   ·cases c2:zl 1 f.xs with
    | true =>
     refine cl (Uu f hl) ?_;push_cast [Wn c1,c2];exact dn (by push_cast [ze,zd,CLe,zh,hf,c1,c2])
    | false =>
     have hn:¬Jr f:=fun h=>by have:=(hf.1 h).2.1;rw[c2]at this;cases this
     refine cl (Uu f hl) ?_;push_cast [Wn c1,c2];exact dn (by push_cast [ze,zd,CLe,zh,hn])
   ·have hn:¬Jr f:=fun h=>c1 (hf.1 h).1;refine cl (Uu f hl) ?_;push_cast [Wm c1];exact dn (by push_cast [ze,zd,CLe,zh,hn])
theorem N5 (f:FsV) (hf:FsS f):Fun Tryz.prog G 164 [.agg (fsC f)] (.sc (.bool (decide (YB f)))) 0:=by
 have hll:(zq f.xs).length=f.xs.length:=We ..;have h40:=hf.len;refine fof (fun i=>if i=7 then Zd 15 16 else []) Tryz.func164 ?_;dsimp only[Tryz.f164];push_cast;refine loop (fun i:Nat=>⟨[(1,.ptr 0 0),(3,.sc (.int .i64 i))],[fsC f],0,0⟩) (fun i=>i<=f.xs.length/\∀ x∈f.xs.take i,∀ e∈x.es,zl e.ino f.xs=true) (fun i=>f.xs.length-i) 0 ⟨Wc _,fun x hx=>by simp at hx⟩ ?_ ?_
 ·exact wk
 ·rintro i ⟨h1,h2⟩;by_cases h:i<f.xs.length
  ·have g1:=qR f.xs i h;have he:=(hf.node _ (Wv h)).1;have hle:(zN f.xs[i].es).length=f.xs[i].es.length:=We ..;push_cast [hll,h];refine loop (fun k:Nat=>⟨[(1,.ptr 0 0),(3,.sc (.int .i64 i)),(4,.sc (.int .i64 k))],[fsC f],0,0⟩) (fun k=>k<=f.xs[i].es.length/\∀ e∈f.xs[i].es.take k,zl e.ino f.xs=true) (fun k=>f.xs[i].es.length-k) 0 ⟨Wc _,fun x hx=>by simp at hx⟩ ?_ ?_
   ·exact wk
   ·rintro k ⟨h3,h4⟩;by_cases hk:k<f.xs[i].es.length
    ·have g2:=JN f.xs[i].es k hk;push_cast [g1,hle,hk,g2]
     repeat refine an ?_
     refine cl (Qr f f.xs[i].es[k].ino (by omega)) ?_;push_cast;cases hh:zl f.xs[i].es[k].ino f.xs with
     | true =>
      push_cast [hh]
      repeat refine an ?_
      exact ⟨k+1,⟨hk,qm hk h4 hh⟩,by omega,wk⟩
     | false =>
      have hn:¬YB f:=fun h'=>by have:=h' _ (Wv h) _ (Wv hk);rw[hh]at this;cases this
      push_cast [hh];exact dn (by push_cast [ze,zd,CLe,zh,hn])
    ·rw[Wg (by omega)]at h4;push_cast [g1,hle,hk]
     repeat refine an ?_
     exact ⟨i+1,⟨h,qm h h2 h4⟩,by omega,wk⟩
  ·rw[Wg (by omega)]at h2;have hn:YB f:=h2;push_cast [hll,h];exact dn (by push_cast [ze,zd,CLe,zh,hn])
theorem zai (f:FsV) (hf:FsS f) (hb:z7 f.xs<=100000000):Fun Tryz.prog G 142 [.agg (fsC f),.sc (.int .i64 0),.sc (.int .i64 0)] (.sc (.bool (decide (Hz f)))) 0:=by
 have hll:(zq f.xs).length=f.xs.length:=We ..;have h40:=hf.len;refine fon Tryz.func142 ?_;dsimp only[Tryz.f142];by_cases c1:f.maxI<f.xs.length
 ·have hn:¬Hz f:=fun h=>by have:=h.1;omega
  push_cast [hll,c1]
  repeat refine an ?_
  exact dn (by push_cast [ze,zd,CLe,zh,hn])
 ·have hn:Hz f↔(z7 f.xs:Int)<=f.maxB:=⟨fun h=>h.2,fun h=>⟨by omega,h⟩⟩;push_cast [hll,c1]
  repeat refine an ?_
  refine cl (zfY f hf) ?_;push_cast
  repeat refine an ?_
  exact dn (by push_cast [ze,zd,CLe,zh,hn])
end
end
section
open Go.RowKit
abbrev Vi (x:zm) (es:List zX):List (Int×Int):=es.map fun e=>(e.ino,x.ino)
def qj (xs:List zm):List (Int×Int):=xs.flatMap fun x=>Vi x x.es
def Zh (n:Int) (l:List (Int×Int)):Nat:=(l.filter fun p=>p.1==n).length
def V9 (n:Int) (l:List (Int×Int)):Int:=(((l.filter fun p=>p.1==n).getLast?).map (·.2)).getD 0
theorem zl7 {p:Int×Int}:Zh n (l++[p])=Zh n l+if p.1=n then 1 else 0:=by
 unfold Zh;rw[OS,Wq];by_cases h:p.1=n<;>simp[h]
theorem zi4 {p:Int×Int}:V9 n (l++[p])=if p.1=n then p.2 else V9 n l:=by
 unfold V9;rw[OS];by_cases h:p.1=n<;>simp[h]
theorem zbX {i:Nat} (h:i<xs.length):qj (xs.take (i+1))=qj (xs.take i)++Vi xs[i] xs[i].es:=by
 unfold qj;rw[WX,Wa h,Bi];simp
theorem zdb {es:List zX} (h:k<es.length):Vi x (es.take (k+1))=Vi x (es.take k)++[(es[k].ino,x.ino)]:=by
 rw[WX,Wa h,Option.toList_some];exact Oc
theorem zfa (hf:∀ x∈xs,x.es.length<=10000):(qj xs).length<=xs.length*10000:=by
 induction xs with
 | nil=>exact Wb _
 | cons x r ih =>
  have h1:=hf x Wj;have h2:=ih fun y hy=>hf y (Wk _ hy);unfold qj at h2 ⊢;rw[Ao,Wq,We,Wh];omega
theorem zqB:Zh n l<=l.length:=OG _ _
def Vf (xs:List zm) (x:zm):Prop:=x.links=Zh x.ino (qj xs)/\if x.ino=1 then Zh x.ino (qj xs)=0/\x.parent=1 else 1<=Zh x.ino (qj xs)/\(x.kind=2->Zh x.ino (qj xs)=1/\x.parent=V9 x.ino (qj xs))
instance (xs:List zm) (x:zm):Decidable (Vf xs x):=by unfold Vf;infer_instance
def YT (f:FsV):Prop:=∀ x∈f.xs,Vf f.xs x
instance (f:FsV):Decidable (YT f):=by unfold YT;infer_instance
section
variable {G:zo}
theorem zcB (f:FsV) (n:Int) (hf:FsS f):Fun Tryz.prog G 203 [.agg (fsC f),.sc (.int .i64 n)] (.tup [.sc (.int .i64 (Zh n (qj f.xs):Nat)),.sc (.int .i64 (V9 n (qj f.xs)))]) 0:=by
 have hll:(zq f.xs).length=f.xs.length:=We ..;have h40:=hf.len;have hc0:Zh n (qj [])=0:=rfl;have hl0:V9 n (qj [])=0:=rfl;refine fon Tryz.func203 ?_;dsimp only[Tryz.f203];push_cast;refine loop (fun i:Nat=>⟨[(1,.sc (.int .i64 n)),(2,.ptr 0 0),(6,.sc (.int .i64 (Zh n (qj (f.xs.take i)):Nat))),(7,.sc (.int .i64 (V9 n (qj (f.xs.take i))))),(8,.sc (.int .i64 i))],[fsC f],0,0⟩) (fun i=>i<=f.xs.length) (fun i=>f.xs.length-i) 0 (Wc _) ?_ ?_
 ·exact wk (by push_cast [ze,zd,CLe,zh,OD,hc0,hl0])
 ·intro i h1;by_cases h:i<f.xs.length
  ·have g1:=qR f.xs i h;have hle:(zN f.xs[i].es).length=f.xs[i].es.length:=We ..;have hpl:(qj (f.xs.take i)).length<=i*10000:=by
    have:=zfa (xs:=f.xs.take i) fun x hx=>(hf.node x (Wu hx)).1;rw[W5]at this;exact WJ this (WP _ (Nat.min_le_left _ _))
   have h40e:=(hf.node _ (Wv h)).1;push_cast [hll,h];refine loop (fun k:Nat=>⟨[(1,.sc (.int .i64 n)),(2,.ptr 0 0),(6,.sc (.int .i64 (Zh n (qj (f.xs.take i)++Vi f.xs[i] (f.xs[i].es.take k)):Nat))),(7,.sc (.int .i64 (V9 n (qj (f.xs.take i)++Vi f.xs[i] (f.xs[i].es.take k))))),(8,.sc (.int .i64 i)),(9,.sc (.int .i64 k))],[fsC f],0,0⟩) (fun k=>k<=f.xs[i].es.length) (fun k=>f.xs[i].es.length-k) 0 (Wc _) ?_ ?_
   ·exact wk (by push_cast [ze,zd,CLe,zh,OD,Of])
   ·intro k hk0;by_cases hk:k<f.xs[i].es.length
    ·have g2:=JN f.xs[i].es k hk;have ht:=zdb (x:=f.xs[i]) hk;have hcl:=zqB (n:=n) (l:=qj (f.xs.take i)++Vi f.xs[i] (f.xs[i].es.take k));rw[Wq,We,W5]at hcl;have hca:=zl7 (n:=n) (l:=qj (f.xs.take i)++Vi f.xs[i] (f.xs[i].es.take k)) (p:=(f.xs[i].es[k].ino,f.xs[i].ino));have hla:=zi4 (n:=n) (l:=qj (f.xs.take i)++Vi f.xs[i] (f.xs[i].es.take k)) (p:=(f.xs[i].es[k].ino,f.xs[i].ino));rw[WQ,←ht]at hca hla;by_cases hc:f.xs[i].es[k].ino=n
     ·rw[if_pos hc]at hca hla;push_cast [g1,hle,hk,g2,hc]
      repeat refine an ?_
      exact ⟨k+1,hk,by omega,wk (by push_cast [ze,zd,CLe,zh,hca,hla])⟩
     ·rw[if_neg hc]at hca hla;push_cast [g1,hle,hk,g2,hc]
      repeat refine an ?_
      exact ⟨k+1,hk,by omega,wk (by push_cast [ze,zd,CLe,zh,hca,hla])⟩
    ·have hkk:f.xs[i].es.take k=f.xs[i].es:=Wg (by omega);rw[hkk];have ht:=zbX h;push_cast [g1,hle,hk]
     repeat refine an ?_
     exact ⟨i+1,h,by omega,wk (by push_cast [ze,zd,CLe,zh,ht])⟩
  ·rw[Wg (by omega)];push_cast [hll,h];exact dn
end
end
section
open CA CB
open Go.RowKit
section
variable {G:zo}
theorem Gh (f:FsV) (hf:FsS f):Fun Tryz.prog G 165 [.agg (fsC f)] (.sc (.bool (decide (YT f)))) 0:=by
 have hll:(zq f.xs).length=f.xs.length:=We ..;have h40:=hf.len;refine fon Tryz.func165 ?_;dsimp only[Tryz.f165];push_cast;refine loop (fun i:Nat=>⟨[(1,.ptr 0 0),(3,.sc (.int .i64 i))],[fsC f],0,0⟩) (fun i=>i<=f.xs.length/\∀ x∈f.xs.take i,Vf f.xs x) (fun i=>f.xs.length-i) 0 ⟨Wc _,fun x hx=>by simp at hx⟩ ?_ ?_
 ·exact wk
 ·rintro i ⟨h1,h2⟩;by_cases h:i<f.xs.length
  ·have g1:=qR f.xs i h;have hbad:¬Vf f.xs f.xs[i]->¬YT f:=fun hn h'=>hn (h' _ (Wv h));have hdef:Vf f.xs f.xs[i]↔f.xs[i].links=Zh f.xs[i].ino (qj f.xs)/\if f.xs[i].ino=1 then Zh f.xs[i].ino (qj f.xs)=0/\f.xs[i].parent=1 else 1<=Zh f.xs[i].ino (qj f.xs)/\(f.xs[i].kind=2->Zh f.xs[i].ino (qj f.xs)=1/\f.xs[i].parent=V9 f.xs[i].ino (qj f.xs)):=Iff.rfl;push_cast [hll,h,g1]
   repeat refine an ?_
   refine cl (zcB f f.xs[i].ino hf) ?_;push_cast;generalize Zh f.xs[i].ino (qj f.xs)=c at hdef;generalize V9 f.xs[i].ino (qj f.xs)=d at hdef;by_cases c1:f.xs[i].links=(c:Int)
   case neg =>
    have hn:=hbad fun h=>c1 (hdef.1 h).1;push_cast [c1];exact dn (by push_cast [ze,zd,CLe,zh,hn])
   by_cases c2:f.xs[i].ino=1
   ·rw[if_pos c2]at hdef;by_cases c3:(c:Int)=0
    ·by_cases c4:f.xs[i].parent=1
     ·push_cast [c1,c2,c3,c4]
      repeat refine an ?_
      exact ⟨i+1,⟨h,qm h h2 (hdef.2 ⟨c1,by omega,c4⟩)⟩,by omega,wk⟩
     ·have hn:=hbad fun h=>c4 (hdef.1 h).2.2;push_cast [c1,c2,c3,c4];exact dn (by push_cast [ze,zd,CLe,zh,hn])
    ·have hn:=hbad fun h=>by have:=(hdef.1 h).2.1;omega
     push_cast [c1,c2,c3];exact dn (by push_cast [ze,zd,CLe,zh,hn])
   ·rw[if_neg c2]at hdef;by_cases c3:(c:Int)<1
    ·have hn:=hbad fun h=>by have:=(hdef.1 h).2.1;omega
     push_cast [c1,c2,c3];exact dn (by push_cast [ze,zd,CLe,zh,hn])
    by_cases c4:f.xs[i].kind=2
    ·by_cases c5:(c:Int)=1
     ·by_cases c6:f.xs[i].parent=d
      ·push_cast [c1,c2,c3,c4,c5,c6]
       repeat refine an ?_
       exact ⟨i+1,⟨h,qm h h2 (hdef.2 ⟨c1,by omega,fun _=>⟨by omega,c6⟩⟩)⟩,by omega,wk⟩
      ·have hn:=hbad fun h=>c6 ((hdef.1 h).2.2 c4).2;push_cast [c1,c2,c3,c4,c5,c6];exact dn (by push_cast [ze,zd,CLe,zh,hn])
     ·have hn:=hbad fun h=>by have:=((hdef.1 h).2.2 c4).1;omega
      push_cast [c1,c2,c3,c4,c5];exact dn (by push_cast [ze,zd,CLe,zh,hn])
    ·push_cast [c1,c2,c3,c4]
     repeat refine an ?_
     exact ⟨i+1,⟨h,qm h h2 (hdef.2 ⟨c1,by omega,fun h=>absurd h c4⟩)⟩,by omega,wk⟩
  ·rw[Wg (by omega)]at h2;have hn:YT f:=h2;push_cast [hll,h];exact dn (by push_cast [ze,zd,CLe,zh,hn])
end
end
section
open CA CB
open Go.RowKit
abbrev zco (S:List Int):List (List C):=S.map fun n=>[C.sc (.int .i64 n)]
def Yy (S:List Int) (n:Int):List Int:=if n∈S then S else S++[n]
def Hg (S:List Int) (es:List zX):List Int:=es.foldl (fun s e=>Yy s e.ino) S
def Zc (xs:List zm):Nat->Nat->List Int->List Int
 | 0,_,S=>S
 | m+1,i,S=>match S[i]? with
  | some n=>Zc xs m (i+1) (Hg S (zg n xs).es)
  | none=>S
def QQ (f:FsV):Prop:=(Zc f.xs (f.xs.length+1) 0 [1]).length=f.xs.length
instance (f:FsV):Decidable (QQ f):=by unfold QQ;infer_instance
theorem Uv:∀ {S T:List Int},S.Nodup->(∀ n∈S,n∈T)->S.length<=T.length
 | [],T,_,_=>Wc _
 | a :: r,T,hn,hs=>by
  have ha:=hs a Wj;obtain ⟨h1,h2⟩:=OP.1 hn;have:=Uv (S:=r) (T:=T.erase a) h2 fun n hr=>(List.mem_erase_of_ne (fun e=>h1 (by rw[←e];exact hr))).2 (hs n (Wk _ hr));rw[List.length_erase_of_mem ha]at this;have hpos:=WK.2 (List.ne_nil_of_mem ha);rw[Wh];omega
theorem NE:zl n xs=true↔n∈xs.map (·.ino):=by
 unfold zl;rw[OF,WT];simp
theorem Zy (hn:S.Nodup) (hs:∀ n∈S,zl n xs=true):S.length<=xs.length:=by
 have:=Uv (T:=xs.map (·.ino)) hn fun n h=>NE.1 (hs n h);rwa [We]at this
theorem MD (h:S.Nodup):(Yy S n).Nodup:=by
 unfold Yy;split
 ·exact h
 ·rw[Ab];refine ⟨h,by simp,fun a ha b hb e=>?_⟩;simp at hb;subst hb;subst e;contradiction
theorem Gg {m:Int}:m∈Yy S n↔m∈S∨m=n:=by
 unfold Yy;split
 ·constructor
  ·exact .inl
  ·rintro (h | h)
   ·exact h
   ·rw[h];assumption
 ·simp
theorem ju (h:zl n xs=true):zg n xs∈xs/\(zg n xs).ino=n:=by
 unfold zl at h;unfold zg X3;cases hq:xs.find? fun x=>x.ino==n with
 | none =>
  rw[Br]at hq;obtain ⟨x,hx,he⟩:=OF.1 h;exact absurd he (hq x hx)
 | some y =>
  exact ⟨Bg hq,by simpa using List.find?_some hq⟩
theorem zgr {es:List zX} (h:k<es.length):Hg S (es.take (k+1))=Yy (Hg S (es.take k)) es[k].ino:=by
 unfold Hg;rw[WX,Wa h,BB]
 rfl
theorem zjH (es:List zX):∀ (S:List Int),S <+: Hg S es:=by
 induction es with
 | nil=>exact fun S=>List.prefix_refl S
 | cons e r ih =>
  intro S;refine List.IsPrefix.trans ?_ (ih (Yy S e.ino));unfold Yy;split
  ·exact List.prefix_refl S
  ·exact List.prefix_append S _
theorem zjr (S:List Int) (es:List zX):S.length<=(Hg S es).length:=(zjH es S).length_le
structure YF (xs:List zm) (S:List Int):Prop where
 nodup:S.Nodup
 has:∀ n∈S,zl n xs=true
theorem YF.len (h:YF xs S):S.length<=xs.length:=Zy h.nodup h.has
theorem YF.one (h:YF xs S) (hn:zl n xs=true):YF xs (Yy S n):=⟨MD h.nodup,fun m hm=>by
 rcases Gg.1 hm with hm | rfl
 ·exact h.has m hm
 ·exact hn⟩
theorem ze9 {j:Nat} (h:j<S.length):((S.take (j+1)).any fun m=>decide (m=n))=(((S.take j).any fun m=>decide (m=n))||decide (S[j]=n)):=by
 rw[WX,Wa h,List.any_append];simp
theorem zlY:(S.any fun m=>decide (m=n))=decide (n∈S):=by
 rw[BJ,OF,decide_eq_true_iff];constructor
 ·rintro ⟨m,hm,h⟩;exact (WN h)▸hm
 ·exact fun h=>⟨n,h,Wn rfl⟩
theorem u9 (S:List Int) (i:Nat) (h:i<S.length):(zco S)[i]?=some [.sc (.int .i64 S[i])]:=by simp[Ww,Wa h]
section
variable {G:zo}
theorem N1 (f:FsV) (hf:FsS f) (h3:YB f) (h1:zl 1 f.xs=true):Fun Tryz.prog G 166 [.agg (fsC f)] (.sc (.bool (decide (QQ f)))) 0:=by
 have hll:(zq f.xs).length=f.xs.length:=We ..;have h40:=hf.len;refine fof (fun i=>if i=5 then Zd 9 10 else []) Tryz.func166 ?_;dsimp only[Tryz.f166];push_cast;refine loop (fun p:Nat×List Int=>⟨[(1,.ptr 0 0),(3,.own 0 3 1 (zco p.2)),(4,.sc (.int .i64 p.1))],[fsC f],1,0⟩) (fun p=>p.1<=p.2.length/\YF f.xs p.2/\Zc f.xs (f.xs.length+1-p.1) p.1 p.2=Zc f.xs (f.xs.length+1) 0 [1]) (fun p=>f.xs.length+1-p.1) (0,[1]) ⟨Wc _,⟨by simp,fun n hn=>by simp at hn;subst hn;exact h1⟩,rfl⟩ ?_ ?_
 ·exact wks [.inl 0]
 ·rintro ⟨i,S⟩ ⟨k1,k2,k3⟩;dsimp only at k1 k2 k3 ⊢;have hSl:=k2.len;have hli:(zco S).length=S.length:=We ..;by_cases h:i<S.length
  ·have g0:=u9 S i h;obtain ⟨hm,hino⟩:=ju (k2.has S[i] (Wv h));push_cast [hli,h,g0]
   repeat refine an ?_
   refine cl (Qr f S[i] (by omega)) ?_;push_cast;rw[show f.xs.length+1-i=(f.xs.length+1-(i+1))+1 by omega,Zc,Wa h]at k3;dsimp only at k3;generalize zg S[i] f.xs=x at hm hino k3;have hx40:=(hf.node x hm).1;have hle:(zN x.es).length=x.es.length:=We ..;refine loop (fun k:Nat=>⟨[(1,.ptr 0 0),(3,.own 0 3 1 (zco (Hg S (x.es.take k)))),(4,.sc (.int .i64 i)),(5,.ptr 1 0),(7,.sc (.int .i64 k))],[fsC f,Ya x],1,0⟩) (fun k=>k<=x.es.length/\YF f.xs (Hg S (x.es.take k))) (fun k=>x.es.length-k) 0 ⟨Wc _,k2⟩ ?_ ?_
   ·exact wks [.inl 0] (by push_cast [ze,zd,CLe,zh,OD,Hg,BT])
   ·rintro k ⟨hk0,k4⟩;by_cases hk:k<x.es.length
    ·have g2:=JN x.es k hk;have hT:=k4.len;have ht:=zgr (S:=S) hk;have hhas:zl x.es[k].ino f.xs=true:=h3 x hm _ (Wv hk);have k5:=k4.one hhas;rw[←ht]at k5;generalize hT1:Hg S (x.es.take (k+1))=T1 at ht k5;generalize Hg S (x.es.take k)=T at k4 hT ht;have hlT:(zco T).length=T.length:=We ..;generalize hn:x.es[k].ino=n at g2 ht;push_cast [hle,hk];refine loop (fun j:Nat=>⟨[(1,.ptr 0 0),(3,.own 0 3 1 (zco T)),(4,.sc (.int .i64 i)),(5,.ptr 1 0),(7,.sc (.int .i64 k)),(8,.sc (.bool ((T.take j).any fun m=>decide (m=n)))),(9,.sc (.int .i64 j))],[fsC f,Ya x],1,0⟩) (fun j=>j<=T.length) (fun j=>T.length-j) 0 (Wc _) ?_ ?_
     ·exact wks [.inl 0] (by push_cast [ze,zd,CLe,zh,OD,BP])
     ·intro j hj0;by_cases hj:j<T.length
      ·have g3:=u9 T j hj;have ha:=ze9 (n:=n) hj;by_cases hq:((T.take j).any fun m=>decide (m=n))=true
       ·rw[hq,BQ]at ha;push_cast [hlT,hj,hq]
        repeat refine an ?_
        exact ⟨j+1,hj,by omega,wks [.inl 0] (by push_cast [ze,zd,CLe,zh,ha])⟩
       ·have hq:=Ov.2 hq;rw[hq,O1]at ha;push_cast [hlT,hj,hq,g3,g2,hn]
        repeat refine an ?_
        exact ⟨j+1,hj,by omega,wks [.inl 0] (by push_cast [ze,zd,CLe,zh,ha])⟩
      ·have hTj:(T.take j)=T:=Wg (by omega);have hany:=zlY (S:=T) (n:=n);unfold Yy at ht;by_cases hin:n∈T
       ·rw[if_pos hin]at ht;rw[Wn hin]at hany;push_cast [hlT,hj,hTj,hany]
        repeat refine an ?_
        exact ⟨k+1,⟨hk,by rw[hT1];exact k5⟩,by omega,wks [.inl 0] (by push_cast [ze,zd,CLe,zh,hT1,ht])⟩
       ·rw[if_neg hin]at ht;rw[Wm hin]at hany;push_cast [hlT,hj,hTj,hany,g2,hn]
        repeat refine an ?_
        exact ⟨k+1,⟨hk,by rw[hT1];exact k5⟩,by omega,wks [.inl 0] (by push_cast [ze,zd,CLe,zh,hT1,ht,Oc])⟩
    ·have hkk:x.es.take k=x.es:=Wg (by omega);rw[hkk]at k4;have hge:i+1<=(Hg S x.es).length:=WJ h (zjr S x.es);push_cast [hle,hk,hkk]
     repeat refine an ?_
     exact ⟨(i+1,Hg S x.es),⟨hge,k4,k3⟩,by dsimp only;omega,wks [.inl 0]⟩
  ·push_cast [hli,h];have hfin:Zc f.xs (f.xs.length+1-i) i S=S:=by
    rw[show f.xs.length+1-i=(f.xs.length-i)+1 by omega,Zc,W0 (by omega)]
   rw[hfin]at k3;have hn:QQ f↔S.length=f.xs.length:=by unfold QQ;rw[←k3]
   exact dn (by push_cast [ze,zd,CLe,zh,hn,hll])
end
end
section
open CA CB
open Go.RowKit
def Xg (es:List zX):Prop:=∀ i (h:i<es.length),may es[i].name=true/\1<=es[i].ino/\(0<i->Op.bytesLess es[i-1].name es[i].name=true)
instance (es:List zX):Decidable (Xg es):=by unfold Xg;infer_instance
def YP (x:zm):Prop:=(x.kind=1∨x.kind=2∨x.kind=3)/\(x.kind≠2->x.es = []/\x.parent=0)/\(x.kind=2->x.data = []/\Xg x.es)/\(x.kind=3->1<=x.data.length/\x.data.length<=4095/\∀ b∈x.data,b≠0)
instance (x:zm):Decidable (YP x):=by unfold YP;infer_instance
def YR (f:FsV):Prop:=∀ x∈f.xs,YP x
instance (f:FsV):Decidable (YR f):=by unfold YR;infer_instance
def Jq (f:FsV):Int:=if Jr f then if YR f then if YB f then if YT f then if QQ f then if Hz f then 0 else 6 else 5 else 4 else 3 else 2 else 1
def okV (f:FsV):Prop:=HB f.xs/\Jq f=0
instance (f:FsV):Decidable (okV f):=by unfold okV;infer_instance
theorem zgH (es:List zX) (hl:es.length<=100000) (hn:∀ e∈es,e.name.length<=1000000):Fun Tryz.prog G0 202 [.sl 2 (zN es)] (qQ (decide (Xg es))) 0:=by
 have hle:(zN es).length=es.length:=We ..;refine fon Tryz.func202 ?_;dsimp only[Tryz.f202];push_cast;refine loop (fun i:Nat=>⟨[(0,.sl 2 (zN es)),(3,.sc (.int .i64 i))],[],0,0⟩) (fun i=>i<=es.length/\∀ j (h:j<es.length),j<i->may es[j].name=true/\1<=es[j].ino/\(0<j->Op.bytesLess es[j-1].name es[j].name=true)) (fun i=>es.length-i) 0 ⟨Wc _,fun j h h'=>absurd h' (OJ _)⟩ ?_ ?_
 ·exact wk
 ·rintro i ⟨h1,h2⟩;by_cases h:i<es.length
  ·have g1:=JN es i h;have hm:=HV es[i].name (by have:=hn _ (Wv h);omega);push_cast [hle,h,g1]
   repeat refine an ?_
   cases c1:may es[i].name with
   | false =>
    have hno:¬Xg es:=fun hr=>by have:=(hr i h).1;rw[c1]at this;cases this
    refine cl hm ?_;push_cast [c1];exact dn (by push_cast [ze,zd,CLe,zh,hno])
   | true =>
    by_cases c2:es[i].ino<1
    ·have hno:¬Xg es:=fun hr=>by have:=(hr i h).2.1;omega
     refine cl hm ?_;push_cast [c1,g1,c2]
     repeat refine an ?_
     exact dn (by push_cast [ze,zd,CLe,zh,hno])
    ·have step:(0<i->Op.bytesLess es[i-1].name es[i].name=true)->∀ j (h:j<es.length),j<i+1->may es[j].name=true/\1<=es[j].ino/\(0<j->Op.bytesLess es[j-1].name es[j].name=true):=fun hb j hj hlt=>by
      rcases Wr j i with q | q
      ·exact h2 j hj q
      ·have:j=i:=by omega
       subst this;exact ⟨c1,by omega,hb⟩
     by_cases c3:0<i
     ·have g2:=JN es (i-1) (by omega);have e1:(i:Int)-1=((i-1:Nat):Int):=by omega
      cases c4:Op.bytesLess es[i-1].name es[i].name with
      | true =>
       refine cl hm ?_;push_cast [c1,g1,c2]
       repeat refine an ?_
       push_cast [c3,e1,g2,g1,c4]
       repeat refine an ?_
       exact ⟨i+1,⟨h,step fun _=>c4⟩,by omega,wk⟩
      | false =>
       have hno:¬Xg es:=fun hr=>by have:=(hr i h).2.2 c3;rw[c4]at this;cases this
       refine cl hm ?_;push_cast [c1,g1,c2]
       repeat refine an ?_
       push_cast [c3,e1,g2,g1,c4]
       repeat refine an ?_
       exact dn (by push_cast [ze,zd,CLe,zh,hno])
     ·refine cl hm ?_;push_cast [c1,g1,c2]
      repeat refine an ?_
      push_cast [c3]
      repeat refine an ?_
      exact ⟨i+1,⟨h,step fun h=>absurd h c3⟩,by omega,wk⟩
  ·have hr:Xg es:=fun j hj=>h2 j hj (by omega);push_cast [hle,h];exact dn (by push_cast [ze,zd,CLe,zh,hr])
end
section
open CA CB
open Go.RowKit
theorem Gq (f:FsV) (hf:FsS f):Fun Tryz.prog G0 163 [.agg (fsC f)] (qQ (decide (YR f))) 0:=by
 have hll:(zq f.xs).length=f.xs.length:=We ..;have h40:=hf.len;refine fon Tryz.func163 ?_;dsimp only[Tryz.f163];push_cast;refine loop (fun i:Nat=>⟨[(1,.ptr 0 0),(3,.sc (.int .i64 i))],[fsC f],0,0⟩) (fun i=>i<=f.xs.length/\∀ x∈f.xs.take i,YP x) (fun i=>f.xs.length-i) 0 ⟨Wc _,fun x hx=>by simp at hx⟩ ?_ ?_
 ·exact wk
 ·rintro i ⟨h1,h2⟩;by_cases h:i<f.xs.length
  case neg =>
   rw[Wg (by omega)]at h2;have hn:YR f:=h2;push_cast [hll,h];exact dn (by push_cast [ze,zd,CLe,zh,hn])
  have g1:=qR f.xs i h;have hbad:¬YP f.xs[i]->¬YR f:=fun hn h'=>hn (h' _ (Wv h));have hs:=hf.node _ (Wv h);have step:YP f.xs[i]->∀ x∈f.xs.take (i+1),YP x:=fun hq=>qm h h2 hq;push_cast [hll,h,g1]
  repeat refine an ?_
  generalize f.xs[i]=x at g1 hbad hs step;have hle:(zN x.es).length=x.es.length:=We ..;have hent:x.es.length<=10000:=hs.1;by_cases k2:x.kind=2
  ·by_cases d0:x.data = []
   ·have hr:=zgH x.es (by omega) fun e he=>by have:=hs.2.2 e he;omega
    cases c1:decide (Xg x.es) with
    | false =>
     have hn:=hbad fun hq=>OM c1 (hq.2.2.1 k2).2;push_cast [k2,d0];refine cl hr ?_;push_cast [c1];exact dn (by push_cast [ze,zd,CLe,zh,hn])
    | true =>
     have hq:YP x:=⟨.inr (.inl k2),fun h=>absurd k2 h,fun _=>⟨d0,WN c1⟩,fun h=>by omega⟩;push_cast [k2,d0];refine cl hr ?_;push_cast [c1,k2];refine loop (fun j:Nat=>⟨[(1,.ptr 0 0),(3,.sc (.int .i64 i)),(4,.ptr 1 0),(5,.sc (.int .i64 j))],[fsC f,Ya x],0,0⟩) (fun j=>j=0) (fun j=>0) 0 rfl ?_ ?_
     ·exact wk (by push_cast [ze,zd,CLe,zh,k2,d0]) (by push_cast [ze,zd,CLe,zh,k2,d0])
     ·rintro j rfl;push_cast [d0]
      repeat refine an ?_
      exact ⟨i+1,⟨h,step hq⟩,by omega,wk⟩
   ·have hn:=hbad fun hq=>d0 (hq.2.2.1 k2).1;push_cast [k2,d0];exact dn (by push_cast [ze,zd,CLe,zh,hn])
  by_cases e0:x.es = []
  case neg =>
   have hn:=hbad fun hq=>e0 (hq.2.1 k2).1;have hpos:0<(x.es.length:Int):=by have:=WK.2 e0;omega
   by_cases k1:x.kind=1
   ·push_cast [k1,hle,hpos];exact dn (by push_cast [ze,zd,CLe,zh,hn])
   ·by_cases k3:x.kind=3
    ·push_cast [k1,k2,k3,hle,hpos];exact dn (by push_cast [ze,zd,CLe,zh,hn])
    ·have hn:=hbad fun hq=>by rcases hq.1 with q | q | q<;>contradiction
     push_cast [k1,k2,k3];exact dn (by push_cast [ze,zd,CLe,zh,hn])
  have hl0:x.es.length=0:=by rw[e0];rfl
  by_cases p0:x.parent=0
  case neg =>
   have hn:=hbad fun hq=>p0 (hq.2.1 k2).2;by_cases k1:x.kind=1
   ·push_cast [k1,hle,hl0,p0];exact dn (by push_cast [ze,zd,CLe,zh,hn])
   ·by_cases k3:x.kind=3
    ·push_cast [k1,k2,k3,hle,hl0,p0];exact dn (by push_cast [ze,zd,CLe,zh,hn])
    ·have hn:=hbad fun hq=>by rcases hq.1 with q | q | q<;>contradiction
     push_cast [k1,k2,k3];exact dn (by push_cast [ze,zd,CLe,zh,hn])
  by_cases k1:x.kind=1
  ·have hq:YP x:=⟨.inl k1,fun _=>⟨e0,p0⟩,fun h=>absurd h k2,fun h=>by omega⟩;push_cast [k1,hle,hl0,p0];refine loop (fun j:Nat=>⟨[(1,.ptr 0 0),(3,.sc (.int .i64 i)),(4,.ptr 1 0),(5,.sc (.int .i64 j))],[fsC f,Ya x],0,0⟩) (fun j=>j=0) (fun j=>0) 0 rfl ?_ ?_
   ·exact wk (by push_cast [ze,zd,CLe,zh,k1,p0]) (by push_cast [ze,zd,CLe,zh,k1,p0])
   ·rintro j rfl;by_cases hd:(0:Int)<x.data.length
    ·push_cast [hd,k1]
     repeat refine an ?_
     exact ⟨i+1,⟨h,step hq⟩,by omega,wk⟩
    ·push_cast [hd,k1]
     repeat refine an ?_
     exact ⟨i+1,⟨h,step hq⟩,by omega,wk⟩
  by_cases k3:x.kind=3
  case neg =>
   have hn:=hbad fun hq=>by rcases hq.1 with q | q | q<;>contradiction
   push_cast [k1,k2,k3];exact dn (by push_cast [ze,zd,CLe,zh,hn])
  by_cases l1:(x.data.length:Int)<1
  ·have hn:=hbad fun hq=>by have:=(hq.2.2.2 k3).1;omega
   push_cast [k1,k2,k3,hle,hl0,p0,l1];exact dn (by push_cast [ze,zd,CLe,zh,hn])
  by_cases l2:4095<(x.data.length:Int)
  ·have hn:=hbad fun hq=>by have:=(hq.2.2.2 k3).2.1;omega
   push_cast [k1,k2,k3,hle,hl0,p0,l1,l2];exact dn (by push_cast [ze,zd,CLe,zh,hn])
  push_cast [k1,k2,k3,hle,hl0,p0,l1,l2];refine loop (fun j:Nat=>⟨[(1,.ptr 0 0),(3,.sc (.int .i64 i)),(4,.ptr 1 0),(5,.sc (.int .i64 j))],[fsC f,Ya x],0,0⟩) (fun j=>j<=x.data.length/\∀ b∈x.data.take j,b≠0) (fun j=>x.data.length-j) 0 ⟨Wc _,fun b hb=>by simp at hb⟩ ?_ ?_
  ·exact wk (by push_cast [ze,zd,CLe,zh,k3,p0]) (by push_cast [ze,zd,CLe,zh,k3,p0])
  ·rintro j ⟨j1,j2⟩;by_cases hj:j<x.data.length
   ·have hb:x.data[j]?=some x.data[j]:=Wa hj;by_cases z:(x.data[j].toNat:Int)=0
    ·have hn:=hbad fun hq=>(hq.2.2.2 k3).2.2 _ (Wv hj) (Ak.1 (by simpa using z));push_cast [hj,k3,hb,z]
     repeat refine an ?_
     exact dn (by push_cast [ze,zd,CLe,zh,hn])
    ·push_cast [hj,k3,hb,z]
     repeat refine an ?_
     exact ⟨j+1,⟨hj,qm hj j2 fun hz=>z (by rw[hz];rfl)⟩,by omega,wk⟩
   ·rw[Wg (by omega)]at j2;have hq:YP x:=⟨.inr (.inr k3),fun _=>⟨e0,p0⟩,fun h=>absurd h k2,fun _=>⟨by omega,by omega,j2⟩⟩;push_cast [hj,k3]
    repeat refine an ?_
    exact ⟨i+1,⟨h,step hq⟩,by omega,wk⟩
theorem zfN (f:FsV) (hf:FsS f):Fun Tryz.prog G0 115 [.agg (fsC f)] (.sc (.int .i64 (Jq f))) 0:=by
 have h40:=hf.len;have hb:z7 f.xs<=100000000:=by have:=hf.bytes;omega
 refine fon Tryz.func115 ?_;dsimp only[Tryz.f115];push_cast;by_cases c1:Jr f
 case neg =>
  refine cl (xf f (by omega)) ?_;push_cast [Wm c1];exact dn (by push_cast [ze,zd,CLe,zh,Jq,c1])
 refine cl (xf f (by omega)) ?_;push_cast [Wn c1];by_cases c2:YR f
 case neg =>
  refine cl (Gq f hf) ?_;push_cast [Wm c2];exact dn (by push_cast [ze,zd,CLe,zh,Jq,c1,c2])
 refine cl (Gq f hf) ?_;push_cast [Wn c2];by_cases c3:YB f
 case neg =>
  refine cl (N5 f hf) ?_;push_cast [Wm c3];exact dn (by push_cast [ze,zd,CLe,zh,Jq,c1,c2,c3])
 refine cl (N5 f hf) ?_;push_cast [Wn c3];by_cases c4:YT f
 case neg =>
  refine cl (Gh f hf) ?_;push_cast [Wm c4];exact dn (by push_cast [ze,zd,CLe,zh,Jq,c1,c2,c3,c4])
 refine cl (Gh f hf) ?_;push_cast [Wn c4];by_cases c5:QQ f
 case neg =>
  refine cl (N1 f hf c3 c1.2.2.2.2.2.2.2.1) ?_;push_cast [Wm c5];exact dn (by push_cast [ze,zd,CLe,zh,Jq,c1,c2,c3,c4,c5])
 refine cl (N1 f hf c3 c1.2.2.2.2.2.2.2.1) ?_;push_cast [Wn c5];by_cases c6:Hz f
 case neg =>
  refine cl (zai f hf hb) ?_;push_cast [Wm c6];exact dn (by push_cast [ze,zd,CLe,zh,Jq,c1,c2,c3,c4,c5,c6])
 refine cl (zai f hf hb) ?_;push_cast [Wn c6];exact dn (by push_cast [ze,zd,CLe,zh,Jq,c1,c2,c3,c4,c5,c6])
end
section
open CA CB
open Go.RowKit
def jG (x:zm) (k:zS):Bool:=decide (k.ino=x.ino)&&!k.content
def qA (w:qC) (x:zm):Prop:=zl x.ino w.fs.xs=false/\1<=x.ino/\x.ino<w.fs.next/\x.links=0/\x.parent=0/\x.es = []/\(x.kind=1∨x.kind=2∨x.kind=3)/\(x.kind=2->x.data = [])/\(x.kind=3->1<=x.data.length/\x.data.length<=4095/\∀ b∈x.data,b≠0)/\w.kept.any (jG x)=true
instance (w:qC) (x:zm):Decidable (qA w x):=by unfold qA;infer_instance
theorem zq6 {α:Type} {P:α->Bool} {l:List α} (h:k<l.length):(l.take (k+1)).any P=((l.take k).any P||P l[k]):=by
 rw[WX,Wa h,List.any_append];simp
theorem zc9 (w:qC) (x:zm) (hl:w.fs.xs.length<=100000) (hk:w.kept.length<=100000) (he:x.es.length<=100000) (hd:x.data.length<=100000):Fun Tryz.prog G0 117 [Xh w,.agg (Ya x)] (qQ (decide (qA w x))) 0:=by
 have hg:=Qr (G:=G0) w.fs x.ino hl;have hkl:(zI w.kept).length=w.kept.length:=We ..;have hle:(zN x.es).length=x.es.length:=We ..;by_cases c1:zl x.ino w.fs.xs=true
 ·have hn:¬qA w x:=fun h=>by have:=h.1;rw[c1]at this;cases this
  rw[c1]at hg;refine fon Tryz.func117 ?_;dsimp only[Tryz.f117];push_cast;refine cl hg ?_;push_cast;exact dn (by push_cast [ze,zd,CLe,zh,hn])
 have c1:=Ov.2 c1;rw[c1]at hg;by_cases c2:x.ino<1
 case pos =>
  have hn:¬qA w x:=fun h=>by have:=h.2.1;omega
  refine fon Tryz.func117 ?_;dsimp only[Tryz.f117];push_cast;refine cl hg ?_;push_cast [hle,c2];exact dn (by push_cast [ze,zd,CLe,zh,hn])
 by_cases c3:w.fs.next<=x.ino
 case pos =>
  have hn:¬qA w x:=fun h=>by have:=h.2.2.1;omega
  refine fon Tryz.func117 ?_;dsimp only[Tryz.f117];push_cast;refine cl hg ?_;push_cast [hle,c2,c3];exact dn (by push_cast [ze,zd,CLe,zh,hn])
 by_cases c4:x.links=0
 case neg =>
  have hn:¬qA w x:=fun h=>c4 h.2.2.2.1;refine fon Tryz.func117 ?_;dsimp only[Tryz.f117];push_cast;refine cl hg ?_;push_cast [hle,c2,c3,c4];exact dn (by push_cast [ze,zd,CLe,zh,hn])
 by_cases c5:x.parent=0
 case neg =>
  have hn:¬qA w x:=fun h=>c5 h.2.2.2.2.1;refine fon Tryz.func117 ?_;dsimp only[Tryz.f117];push_cast;refine cl hg ?_;push_cast [hle,c2,c3,c4,c5];exact dn (by push_cast [ze,zd,CLe,zh,hn])
 by_cases c6:(x.es.length:Int)=0
 case neg =>
  have hn:¬qA w x:=fun h=>c6 (by rw[h.2.2.2.2.2.1];rfl);refine fon Tryz.func117 ?_;dsimp only[Tryz.f117];push_cast;refine cl hg ?_;push_cast [hle,c2,c3,c4,c5,c6];exact dn (by push_cast [ze,zd,CLe,zh,hn])
 by_cases c7:x.kind<1
 case pos =>
  have hn:¬qA w x:=fun h=>by have:=h.2.2.2.2.2.2.1;omega
  refine fon Tryz.func117 ?_;dsimp only[Tryz.f117];push_cast;refine cl hg ?_;push_cast [hle,c2,c3,c4,c5,c6,c7];exact dn (by push_cast [ze,zd,CLe,zh,hn])
 by_cases c8:3<x.kind
 case pos =>
  have hn:¬qA w x:=fun h=>by have:=h.2.2.2.2.2.2.1;omega
  refine fon Tryz.func117 ?_;dsimp only[Tryz.f117];push_cast;refine cl hg ?_;push_cast [hle,c2,c3,c4,c5,c6,c7,c8];exact dn (by push_cast [ze,zd,CLe,zh,hn])
 have hes:x.es = []:=W3 (by omega);have hkd:x.kind=1∨x.kind=2∨x.kind=3:=by omega
 have key:(x.kind=2->x.data = [])->(x.kind=3->1<=x.data.length/\x.data.length<=4095/\∀ b∈x.data,b≠0)->decide (qA w x)=w.kept.any (jG x):=fun q1 q2=>by
  cases hn:w.kept.any (jG x) with
  | true=>exact Wn ⟨c1,by omega,by omega,c4,c5,hes,hkd,q1,q2,hn⟩
  | false=>exact Wm fun h=>by have:=h.2.2.2.2.2.2.2.2.2;rw[hn]at this;cases this
 by_cases k2:x.kind=2
 ·by_cases d0:x.data = []
  ·have hdl:((0:Int)<x.data.length)=False:=WR (by rw[d0];simp);refine fon Tryz.func117 ?_;dsimp only[Tryz.f117];push_cast;refine cl hg ?_;push_cast [hle,c2,c3,c4,c5,c6,c7,c8,k2,d0,hdl];refine loop (fun j:Nat=>⟨[(2,.ptr 0 0),(3,.ptr 1 0),(7,.sc (.int .i64 j))],[HL w,Ya x],0,0⟩) (fun j=>j=0) (fun j=>0) 0 rfl ?_ ?_
   ·exact wk (h5:=by push_cast [ze,zd,CLe,zh,k2,d0,c4,c5])
   ·rintro j rfl;push_cast [hdl,d0];refine loop (fun i:Nat=>⟨[(2,.ptr 0 0),(3,.ptr 1 0),(8,.sc (.bool ((w.kept.take i).any (jG x)))),(9,.sc (.int .i64 i))],[HL w,Ya x],0,0⟩) (fun i=>i<=w.kept.length) (fun i=>w.kept.length-i) 0 (Wc _) ?_ ?_
    ·exact wk (by push_cast [ze,zd,CLe,zh,OD,BP])
    ·intro i hi;by_cases h:i<w.kept.length
     ·have g:=j5 w.kept i h;have ha:=zq6 (P:=jG x) h;have hp:jG x w.kept[i]=(decide (w.kept[i].ino=x.ino)&&!w.kept[i].content):=rfl;by_cases hn:((w.kept.take i).any (jG x))=true
      ·rw[hn,BQ]at ha;push_cast [hkl,h,hn]
       repeat refine an ?_
       exact ⟨i+1,h,by omega,wk (by push_cast [ze,zd,CLe,zh,ha])⟩
      ·have hn:=Ov.2 hn;rw[hn,O1,hp]at ha;by_cases he:w.kept[i].ino=x.ino
       ·rw[Wn he,OA]at ha;push_cast [hkl,h,hn,g,he]
        repeat refine an ?_
        exact ⟨i+1,h,by omega,wk (by push_cast [ze,zd,CLe,zh,ha])⟩
       ·rw[Wm he,Oa]at ha;push_cast [hkl,h,hn,g,he]
        repeat refine an ?_
        exact ⟨i+1,h,by omega,wk (by push_cast [ze,zd,CLe,zh,ha])⟩
     ·rw[Wg (by omega)];have hd:decide (qA w x)=w.kept.any (jG x):=key (fun _=>d0) (fun h=>by omega);push_cast [hkl,h];exact dn (by push_cast [ze,zd,CLe,zh,hd])
  ·have hn:¬qA w x:=fun h=>d0 (h.2.2.2.2.2.2.2.1 k2);refine fon Tryz.func117 ?_;dsimp only[Tryz.f117];push_cast;refine cl hg ?_;push_cast [hle,c2,c3,c4,c5,c6,c7,c8,k2,d0];exact dn (by push_cast [ze,zd,CLe,zh,hn])
 by_cases k3:x.kind=3
 ·by_cases l1:(x.data.length:Int)<1
  ·have hn:¬qA w x:=fun h=>by have:=(h.2.2.2.2.2.2.2.2.1 k3).1;omega
   refine fon Tryz.func117 ?_;dsimp only[Tryz.f117];push_cast;refine cl hg ?_;push_cast [hle,c2,c3,c4,c5,c6,c7,c8,k2,k3,l1];exact dn (by push_cast [ze,zd,CLe,zh,hn])
  by_cases l2:4095<(x.data.length:Int)
  ·have hn:¬qA w x:=fun h=>by have:=(h.2.2.2.2.2.2.2.2.1 k3).2.1;omega
   refine fon Tryz.func117 ?_;dsimp only[Tryz.f117];push_cast;refine cl hg ?_;push_cast [hle,c2,c3,c4,c5,c6,c7,c8,k2,k3,l1,l2];exact dn (by push_cast [ze,zd,CLe,zh,hn])
  refine fon Tryz.func117 ?_;dsimp only[Tryz.f117];push_cast;refine cl hg ?_;push_cast [hle,c2,c3,c4,c5,c6,c7,c8,k2,k3,l1,l2];refine loop (fun j:Nat=>⟨[(2,.ptr 0 0),(3,.ptr 1 0),(7,.sc (.int .i64 j))],[HL w,Ya x],0,0⟩) (fun j=>j<=x.data.length/\∀ b∈x.data.take j,b≠0) (fun j=>x.data.length-j) 0 ⟨Wc _,fun b hb=>by simp at hb⟩ ?_ ?_
  ·exact wk (h5:=by push_cast [ze,zd,CLe,zh,k3,c4,c5])
  ·rintro j ⟨j1,j2⟩;by_cases hj:j<x.data.length
   ·have hb:x.data[j]?=some x.data[j]:=Wa hj;by_cases z:(x.data[j].toNat:Int)=0
    ·have hn:¬qA w x:=fun h=>(h.2.2.2.2.2.2.2.2.1 k3).2.2 _ (Wv hj) (Ak.1 (by simpa using z));push_cast [hj,k3,hb,z]
     repeat refine an ?_
     exact dn (by push_cast [ze,zd,CLe,zh,hn])
    ·push_cast [hj,k3,hb,z]
     repeat refine an ?_
     exact ⟨j+1,⟨hj,qm hj j2 fun hz=>z (by rw[hz];rfl)⟩,by omega,wk⟩
   ·rw[Wg (by omega)]at j2;push_cast [hj,k3];refine loop (fun i:Nat=>⟨[(2,.ptr 0 0),(3,.ptr 1 0),(8,.sc (.bool ((w.kept.take i).any (jG x)))),(9,.sc (.int .i64 i))],[HL w,Ya x],0,0⟩) (fun i=>i<=w.kept.length) (fun i=>w.kept.length-i) 0 (Wc _) ?_ ?_
    ·exact wk (by push_cast [ze,zd,CLe,zh,OD,BP])
    ·intro i hi;by_cases h:i<w.kept.length
     ·have g:=j5 w.kept i h;have ha:=zq6 (P:=jG x) h;have hp:jG x w.kept[i]=(decide (w.kept[i].ino=x.ino)&&!w.kept[i].content):=rfl;by_cases hn:((w.kept.take i).any (jG x))=true
      ·rw[hn,BQ]at ha;push_cast [hkl,h,hn]
       repeat refine an ?_
       exact ⟨i+1,h,by omega,wk (by push_cast [ze,zd,CLe,zh,ha])⟩
      ·have hn:=Ov.2 hn;rw[hn,O1,hp]at ha;by_cases he:w.kept[i].ino=x.ino
       ·rw[Wn he,OA]at ha;push_cast [hkl,h,hn,g,he]
        repeat refine an ?_
        exact ⟨i+1,h,by omega,wk (by push_cast [ze,zd,CLe,zh,ha])⟩
       ·rw[Wm he,Oa]at ha;push_cast [hkl,h,hn,g,he]
        repeat refine an ?_
        exact ⟨i+1,h,by omega,wk (by push_cast [ze,zd,CLe,zh,ha])⟩
     ·rw[Wg (by omega)];have hd:decide (qA w x)=w.kept.any (jG x):=key (fun h=>absurd h k2) (fun _=>⟨by omega,by omega,j2⟩);push_cast [hkl,h];exact dn (by push_cast [ze,zd,CLe,zh,hd])
 ·have k1:x.kind=1:=by omega
  refine fon Tryz.func117 ?_;dsimp only[Tryz.f117];push_cast;refine cl hg ?_;push_cast [hle,c2,c3,c4,c5,c6,c7,c8,k2,k3];refine loop (fun j:Nat=>⟨[(2,.ptr 0 0),(3,.ptr 1 0),(7,.sc (.int .i64 j))],[HL w,Ya x],0,0⟩) (fun j=>j=0) (fun j=>0) 0 rfl ?_ ?_
  ·exact wk (h5:=by push_cast [ze,zd,CLe,zh,c4,c5])
  ·rintro j rfl;by_cases hd0:(0:Int)<x.data.length
   ·push_cast [hd0,k3];refine loop (fun i:Nat=>⟨[(2,.ptr 0 0),(3,.ptr 1 0),(8,.sc (.bool ((w.kept.take i).any (jG x)))),(9,.sc (.int .i64 i))],[HL w,Ya x],0,0⟩) (fun i=>i<=w.kept.length) (fun i=>w.kept.length-i) 0 (Wc _) ?_ ?_
    ·exact wk (by push_cast [ze,zd,CLe,zh,OD,BP])
    ·intro i hi;by_cases h:i<w.kept.length
     ·have g:=j5 w.kept i h;have ha:=zq6 (P:=jG x) h;have hp:jG x w.kept[i]=(decide (w.kept[i].ino=x.ino)&&!w.kept[i].content):=rfl;by_cases hn:((w.kept.take i).any (jG x))=true
      ·rw[hn,BQ]at ha;push_cast [hkl,h,hn]
       repeat refine an ?_
       exact ⟨i+1,h,by omega,wk (by push_cast [ze,zd,CLe,zh,ha])⟩
      ·have hn:=Ov.2 hn;rw[hn,O1,hp]at ha;by_cases he:w.kept[i].ino=x.ino
       ·rw[Wn he,OA]at ha;push_cast [hkl,h,hn,g,he]
        repeat refine an ?_
        exact ⟨i+1,h,by omega,wk (by push_cast [ze,zd,CLe,zh,ha])⟩
       ·rw[Wm he,Oa]at ha;push_cast [hkl,h,hn,g,he]
        repeat refine an ?_
        exact ⟨i+1,h,by omega,wk (by push_cast [ze,zd,CLe,zh,ha])⟩
     ·rw[Wg (by omega)];have hd:decide (qA w x)=w.kept.any (jG x):=key (fun h=>absurd h k2) (fun h=>absurd h k3);push_cast [hkl,h];exact dn (by push_cast [ze,zd,CLe,zh,hd])
   ·push_cast [hd0,k3];refine loop (fun i:Nat=>⟨[(2,.ptr 0 0),(3,.ptr 1 0),(8,.sc (.bool ((w.kept.take i).any (jG x)))),(9,.sc (.int .i64 i))],[HL w,Ya x],0,0⟩) (fun i=>i<=w.kept.length) (fun i=>w.kept.length-i) 0 (Wc _) ?_ ?_
    ·exact wk (by push_cast [ze,zd,CLe,zh,OD,BP])
    ·intro i hi;by_cases h:i<w.kept.length
     ·have g:=j5 w.kept i h;have ha:=zq6 (P:=jG x) h;have hp:jG x w.kept[i]=(decide (w.kept[i].ino=x.ino)&&!w.kept[i].content):=rfl;by_cases hn:((w.kept.take i).any (jG x))=true
      ·rw[hn,BQ]at ha;push_cast [hkl,h,hn]
       repeat refine an ?_
       exact ⟨i+1,h,by omega,wk (by push_cast [ze,zd,CLe,zh,ha])⟩
      ·have hn:=Ov.2 hn;rw[hn,O1,hp]at ha;by_cases he:w.kept[i].ino=x.ino
       ·rw[Wn he,OA]at ha;push_cast [hkl,h,hn,g,he]
        repeat refine an ?_
        exact ⟨i+1,h,by omega,wk (by push_cast [ze,zd,CLe,zh,ha])⟩
       ·rw[Wm he,Oa]at ha;push_cast [hkl,h,hn,g,he]
        repeat refine an ?_
        exact ⟨i+1,h,by omega,wk (by push_cast [ze,zd,CLe,zh,ha])⟩
     ·rw[Wg (by omega)];have hd:decide (qA w x)=w.kept.any (jG x):=key (fun h=>absurd h k2) (fun h=>absurd h k3);push_cast [hkl,h];exact dn (by push_cast [ze,zd,CLe,zh,hd])
end
end Go.Proofs.YtaipngaejfndgaaGreatDoor.Vcg
