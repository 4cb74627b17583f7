/- What the proof of LnsStays leans on, part 6: Rea Tol Plw Plx Lnw Lnq Sk1 Sk3 Rfi Fit Lnb Lns. No condition beyond what each theorem states. -/
import Derived.Test.YtaipngaejfndgaaGreatDoorLnsStaysKe
import Derived.Lib.IndexLaws
set_option linter.unusedVariables false
set_option linter.unusedSimpArgs false
set_option linter.unusedSectionVars false
set_option maxRecDepth 100000
set_option maxHeartbeats 4000000
namespace Go.Proofs.YtaipngaejfndgaaGreatDoor.Vcg
variable {f:FsV} {l:List Lz} {b:Lz}
section
open CA CB
open Go.RowKit QuotePlain
abbrev u8C (b:UInt8):C:=.sc (.int .u8 (b.toNat:Int))
theorem G9 (l:Lz) (c:UInt8):(Lib.indexByte l c<0)↔c∉l:=by
 constructor
 ·intro h hc;have h1:=Lib.indexByte_ge l c;obtain ⟨k,hk,e⟩:=WE hc;exact Lib.indexByte_none (show Lib.indexByte l c = -1 by omega) k (by rw[Wa hk,e])
 ·intro h;rcases Int.lt_or_le (Lib.indexByte l c) 0 with h1 | h1
  ·exact h1
  ·obtain ⟨o,ho⟩:∃ o:Nat,Lib.indexByte l c=o:=⟨(Lib.indexByte l c).toNat,by omega⟩;obtain ⟨h2,_⟩:=Lib.indexByte_some ho;exact absurd (Wf h2) h
theorem US (s:Lz) (c:UInt8) (hs:s.length<=1000000):Fun Tryz.prog G0 37 [.str s,u8C c] (.sc (.bool (decide (c∈s)))) 0:=by
 refine fon Tryz.func37 ?_;dsimp only[Tryz.f37];push_cast;refine loop (fun k:Nat=>⟨[(0,.str s),(1,u8C c),(5,.sc (.int .i64 k))],[],0,0⟩) (fun k=>k<=s.length/\c∉s.take k) (fun k=>s.length-k) 0 ⟨Wc _,by simp⟩ ?_ ?_
 ·exact wk
 ·rintro k ⟨hk,hn⟩;push_cast;refine br (fun h=>?_) (fun h=>?_)
  ·have hk2:k<s.length:=by simp at h;omega
   have hg:s[k]?=some s[k]:=Wa hk2;push_cast [hg];refine ⟨by omega,br (fun h2=>?_) (fun h2=>?_)⟩
   ·push_cast;have h3:s[k]=c:=by simp at h2;exact Ak.1 (by omega)
    have h4:c∈s:=h3▸Wv hk2;exact dn (by push_cast [ze,zd,CLe,zh,h4])
   ·push_cast;have h3:¬c=s[k]:=fun e=>by subst e;simp at h2
    refine ⟨by omega,k+1,⟨by omega,?_⟩,by omega,wk⟩;intro h4;rw[WX,hg]at h4;rcases WD.1 h4 with h5 | h5
    ·exact hn h5
    ·simp at h5;exact h3 h5
  ·have hk2:k=s.length:=by simp at h;omega
   subst hk2;rw[Oe]at hn;push_cast;exact dn (by push_cast [ze,zd,CLe,zh,hn])
theorem Np (k:Int) (o:Lz) (ops:C) (c:UInt8) (hops:ops.cellB=true):Fun Tryz.prog G0 34 [.agg [.sc (.int .i64 k),.str o,ops],u8C c] (.sc (.bool (decide (c∈o)))) 0:=by
 refine fon Tryz.func34 ?_;dsimp only[Tryz.f34];push_cast [hops];refine cl (Z1 o c) ?_;push_cast;have e:decide (0<=Lib.indexByte o c)=decide (c∈o):=by
  have:=G9 o c;by_cases h:c∈o
  ·have h2:¬Lib.indexByte o c<0:=fun h3=>this.1 h3 h;simp[h];omega
  ·have h2:=this.2 h;simp[h];omega
 exact dn (by push_cast [ze,zd,CLe,zh,e])
theorem zsf (c d:UInt8):((c.toNat:Int)=(d.toNat:Int))=(c=d):=by
 refine propext ⟨fun h=>Ak.1 (by omega),fun h=>by rw[h]⟩
def XW (s p:Lz):UInt8:=s.foldl (fun c b=>if b∈p then b else c) 0
theorem Ge (s p:Lz) (i:Nat) (hi:i<s.length):XW (s.take (i+1)) p=if s[i]∈p then s[i] else XW (s.take i) p:=by
 unfold XW;rw[WX,Wa hi,BB];simp
theorem xq (s p:Lz) (hs:s.length<=1000000) (hp:p.length<=1000000):Fun Tryz.prog G0 119 [.str s,.str p] (u8C (XW s p)) 0:=by
 refine fon Tryz.func119 ?_;dsimp only[Tryz.f119];push_cast;refine loop (fun k:Nat=>⟨[(0,.str s),(1,.str p),(5,u8C (XW (s.take k) p)),(6,.sc (.int .i64 k))],[],0,0⟩) (fun k=>k<=s.length) (fun k=>s.length-k) 0 (Wc _) ?_ ?_
 ·exact JF.mk [] rfl rfl (Wb _) rfl (by push_cast [ze,zd,CLe,zh]<;>rfl) (by push_cast [ze,zd,CLe,zh])
 ·rintro k hk;push_cast;refine br (fun h=>?_) (fun h=>?_)
  ·have hk2:k<s.length:=by simp at h;omega
   have hg:s[k]?=some s[k]:=Wa hk2;push_cast [hg];refine ⟨by omega,?_⟩;refine cl (US p s[k] hp) ?_;push_cast;refine br (fun h2=>?_) (fun h2=>?_)
   ·push_cast [hg];have e:XW (s.take (k+1)) p=s[k]:=by rw[Ge s p k hk2,if_pos (by simpa using h2)]
    refine ⟨by omega,by omega,k+1,by omega,by omega,wk (by push_cast [ze,zd,CLe,zh,e])⟩
   ·push_cast [hg];have e:XW (s.take (k+1)) p=XW (s.take k) p:=by rw[Ge s p k hk2,if_neg (by simpa using h2)]
    refine ⟨by omega,k+1,by omega,by omega,wk (by push_cast [ze,zd,CLe,zh,e])⟩
  ·have hk2:k=s.length:=by simp at h;omega
   subst hk2;rw[Oe];push_cast;exact dn
def isO (k:Int) (s:Lz) (x:UInt8):Bool:=if 4<=k/\(x=102∨x=110) then decide (XW s [102,110]=x) else if x=114 then decide (114∈s∨82∈s) else if x=82 then false else decide (x∈s)
def Yu (k:Int) (s:Lz) (n:Nat):Lz:=((List.range' 65 n).map UInt8.ofNat).filter (isO k s)
theorem yx (k:Int) (s:Lz) (hs:s.length<=1000000):Fun Tryz.prog G0 69 [.sc (.int .i64 k),.str s] (.str (Yu k s 58)) 0:=by
 refine fon Tryz.func69 ?_;dsimp only[Tryz.f69];push_cast;refine loop (fun j:Nat=>⟨[(0,.sc (.int .i64 k)),(1,.str s),(5,.str (Yu k s j)),(6,.sc (.int .i64 (65+j)))],[],0,0⟩) (fun j=>j<=58) (fun j=>58-j) 0 (Wc _) ?_ ?_
 ·exact JF.mk [] rfl rfl (Wb _) rfl (by push_cast [ze,zd,CLe,zh]<;>rfl) (by push_cast [ze,zd,CLe,zh])
 ·rintro j hj;push_cast;refine br (fun h=>?_) (fun h=>?_)
  ·have hj2:j<58:=by simp at h;omega
   obtain ⟨x,hxe,hx⟩:∃ x:UInt8,UInt8.ofNat (65+j)=x/\(65+(j:Int))=(x.toNat:Int):=⟨_,rfl,by rw[UInt8.toNat_ofNat_of_lt' (by show 65+j<256;omega)];omega⟩;have hx1:65+((j:Int)+1)=(x.toNat:Int)+1:=by omega
   have hxb:(x.toNat:Int)<123:=by omega
   have hstep:Yu k s (j+1)=Yu k s j++if isO k s x then [x] else []:=by
    unfold Yu;rw[List.range'_concat,Oc,OS];simp only[Wp,WL,Nat.one_mul,hxe,O6,List.filter_nil]
   have hlo:(Yu k s j).length<=j:=WJ (OG _ _) (by simp);have hI:∀ (n:Nat) (d:UInt8),d.toNat=n->((x.toNat:Int)=(n:Int))=(x=d):=fun n d h=>h▸zsf x d;have hcase:(x=82)∨(x=114)∨(x≠82/\x≠114/\¬4<=k)∨(x=102/\4<=k)∨(x=110/\4<=k)∨(x≠82/\x≠114/\4<=k/\x≠102/\x≠110):=by
    by_cases h1:x=82
    ·exact .inl h1
    ·by_cases h2:x=114
     ·exact .inr (.inl h2)
     ·by_cases h3:4<=k
      ·by_cases h4:x=102
       ·exact .inr (.inr (.inr (.inl ⟨h4,h3⟩)))
       ·by_cases h5:x=110
        ·exact .inr (.inr (.inr (.inr (.inl ⟨h5,h3⟩))))
        ·exact .inr (.inr (.inr (.inr (.inr ⟨h1,h2,h3,h4,h5⟩))))
      ·exact .inr (.inr (.inl ⟨h1,h2,h3⟩))
   clear hxe;rw[hx];push_cast;refine ⟨by omega,?_⟩;refine cl (US s x hs) ?_;push_cast;rcases hcase with hc | hc | hc | hc | hc | hc
   ·have f0:isO k s x=false:=by simp[isO,hc]
    have e:Yu k s (j+1)=Yu k s j:=by rw[hstep,f0];simp
    have f1:((x.toNat:Int)=82)=True:=(hI 82 82 rfl).trans (by simp[hc]);have f2:((x.toNat:Int)=114)=False:=(hI 114 114 rfl).trans (by simp[hc]);have f3:((x.toNat:Int)=102)=False:=(hI 102 102 rfl).trans (by simp[hc]);have f4:((x.toNat:Int)=110)=False:=(hI 110 110 rfl).trans (by simp[hc]);by_cases h4:4<=k
    all_goals
     push_cast [f1,f2,f3,f4,h4]
     repeat (refine And.intro (by omega) ?_)
     refine ⟨j+1,by omega,by omega,wk (by push_cast [ze,zd,CLe,zh,e,hx1])⟩
   ·have f0:isO k s x=decide (114∈s∨82∈s):=by simp[isO,hc]
    have f1:((x.toNat:Int)=82)=False:=(hI 82 82 rfl).trans (by simp[hc]);have f2:((x.toNat:Int)=114)=True:=(hI 114 114 rfl).trans (by simp[hc]);have f3:((x.toNat:Int)=102)=False:=(hI 102 102 rfl).trans (by simp[hc]);have f4:((x.toNat:Int)=110)=False:=(hI 110 110 rfl).trans (by simp[hc]);push_cast [f1,f2,f3,f4];refine cl (US s 114 hs) ?_;push_cast;by_cases h6:114∈s
    ·push_cast [h6];have e:Yu k s (j+1)=Yu k s j++[x]:=by rw[hstep,f0];simp[h6]
     by_cases h4:4<=k
     all_goals
      push_cast [f1,f2,f3,f4,h4];refine ⟨[x],rfl,?_⟩;push_cast
      repeat (refine And.intro (by omega) ?_)
      refine ⟨j+1,by omega,by omega,wk (by push_cast [ze,zd,CLe,zh,e,hx1])⟩
    ·push_cast [h6];refine cl (US s 82 hs) ?_;push_cast;by_cases h7:82∈s
     ·have e:Yu k s (j+1)=Yu k s j++[x]:=by rw[hstep,f0];simp[h7]
      by_cases h4:4<=k
      all_goals
       push_cast [f1,f2,f3,f4,h4,h7];refine ⟨[x],rfl,?_⟩;push_cast
       repeat (refine And.intro (by omega) ?_)
       refine ⟨j+1,by omega,by omega,wk (by push_cast [ze,zd,CLe,zh,e,hx1])⟩
     ·have e:Yu k s (j+1)=Yu k s j:=by rw[hstep,f0];simp[h6,h7]
      by_cases h4:4<=k
      all_goals
       push_cast [f1,f2,f3,f4,h4,h7]
       repeat (refine And.intro (by omega) ?_)
       refine ⟨j+1,by omega,by omega,wk (by push_cast [ze,zd,CLe,zh,e,hx1])⟩
   ·have f0:isO k s x=decide (x∈s):=by simp[isO,hc]
    have h4:¬4<=k:=hc.2.2;have f1:((x.toNat:Int)=82)=False:=(hI 82 82 rfl).trans (by simp[hc]);have f2:((x.toNat:Int)=114)=False:=(hI 114 114 rfl).trans (by simp[hc]);by_cases h6:x∈s
    ·have e:Yu k s (j+1)=Yu k s j++[x]:=by rw[hstep,f0];simp[h6]
     push_cast [f1,f2,h4,h6];refine ⟨[x],rfl,?_⟩;push_cast
     repeat (refine And.intro (by omega) ?_)
     refine ⟨j+1,by omega,by omega,wk (by push_cast [ze,zd,CLe,zh,e,hx1])⟩
    ·have e:Yu k s (j+1)=Yu k s j:=by rw[hstep,f0];simp[h6]
     push_cast [f1,f2,h4,h6]
     repeat (refine And.intro (by omega) ?_)
     refine ⟨j+1,by omega,by omega,wk (by push_cast [ze,zd,CLe,zh,e,hx1])⟩
   ·have f0:isO k s x=decide (XW s [102,110]=x):=by simp[isO,hc]
    have h4:4<=k:=hc.2;have f1:((x.toNat:Int)=82)=False:=(hI 82 82 rfl).trans (by simp[hc]);have f2:((x.toNat:Int)=114)=False:=(hI 114 114 rfl).trans (by simp[hc]);have f3:((x.toNat:Int)=102)=True:=(hI 102 102 rfl).trans (by simp[hc]);have f4:((x.toNat:Int)=110)=False:=(hI 110 110 rfl).trans (by simp[hc]);push_cast [f1,f2,f3,f4,h4];refine cl (xq s [102,110] hs (by simp)) ?_;push_cast;by_cases h6:XW s [102,110]=x
    ·have g6:((XW s [102,110]).toNat=x.toNat)=True:=by simp[h6]
     have e:Yu k s (j+1)=Yu k s j++[x]:=by rw[hstep,f0];simp[h6]
     push_cast [g6];refine ⟨[x],rfl,?_⟩;push_cast
     repeat (refine And.intro (by omega) ?_)
     refine ⟨j+1,by omega,by omega,wk (by push_cast [ze,zd,CLe,zh,e,hx1])⟩
    ·have g6:((XW s [102,110]).toNat=x.toNat)=False:=by simp[Ak,h6]
     have e:Yu k s (j+1)=Yu k s j:=by rw[hstep,f0];simp[h6]
     push_cast [g6]
     repeat (refine And.intro (by omega) ?_)
     refine ⟨j+1,by omega,by omega,wk (by push_cast [ze,zd,CLe,zh,e,hx1])⟩
   ·have f0:isO k s x=decide (XW s [102,110]=x):=by simp[isO,hc]
    have h4:4<=k:=hc.2;have f1:((x.toNat:Int)=82)=False:=(hI 82 82 rfl).trans (by simp[hc]);have f2:((x.toNat:Int)=114)=False:=(hI 114 114 rfl).trans (by simp[hc]);have f3:((x.toNat:Int)=102)=False:=(hI 102 102 rfl).trans (by simp[hc]);have f4:((x.toNat:Int)=110)=True:=(hI 110 110 rfl).trans (by simp[hc]);push_cast [f1,f2,f3,f4,h4];refine cl (xq s [102,110] hs (by simp)) ?_;push_cast;by_cases h6:XW s [102,110]=x
    ·have g6:((XW s [102,110]).toNat=x.toNat)=True:=by simp[h6]
     have e:Yu k s (j+1)=Yu k s j++[x]:=by rw[hstep,f0];simp[h6]
     push_cast [g6];refine ⟨[x],rfl,?_⟩;push_cast
     repeat (refine And.intro (by omega) ?_)
     refine ⟨j+1,by omega,by omega,wk (by push_cast [ze,zd,CLe,zh,e,hx1])⟩
    ·have g6:((XW s [102,110]).toNat=x.toNat)=False:=by simp[Ak,h6]
     have e:Yu k s (j+1)=Yu k s j:=by rw[hstep,f0];simp[h6]
     push_cast [g6]
     repeat (refine And.intro (by omega) ?_)
     refine ⟨j+1,by omega,by omega,wk (by push_cast [ze,zd,CLe,zh,e,hx1])⟩
   ·have f0:isO k s x=decide (x∈s):=by simp[isO,hc]
    have h4:4<=k:=hc.2.2.1;have f1:((x.toNat:Int)=82)=False:=(hI 82 82 rfl).trans (by simp[hc]);have f2:((x.toNat:Int)=114)=False:=(hI 114 114 rfl).trans (by simp[hc]);have f3:((x.toNat:Int)=102)=False:=(hI 102 102 rfl).trans (by simp[hc]);have f4:((x.toNat:Int)=110)=False:=(hI 110 110 rfl).trans (by simp[hc]);by_cases h6:x∈s
    ·have e:Yu k s (j+1)=Yu k s j++[x]:=by rw[hstep,f0];simp[h6]
     push_cast [f1,f2,f3,f4,h4,h6];refine ⟨[x],rfl,?_⟩;push_cast
     repeat (refine And.intro (by omega) ?_)
     refine ⟨j+1,by omega,by omega,wk (by push_cast [ze,zd,CLe,zh,e,hx1])⟩
    ·have e:Yu k s (j+1)=Yu k s j:=by rw[hstep,f0];simp[h6]
     push_cast [f1,f2,f3,f4,h4,h6]
     repeat (refine And.intro (by omega) ?_)
     refine ⟨j+1,by omega,by omega,wk (by push_cast [ze,zd,CLe,zh,e,hx1])⟩
  ·have hj2:j=58:=by simp at h;omega
   subst hj2;push_cast;exact dn
abbrev Acc:=Lz->UInt8->Lz
def YS (all:Lz) (f:Acc):Lz->Lz->Lz×Lz
 | a,[]=>(a,[])
 | a,c :: r=>if c∈all then YS all f (f a c) r else (a,[c])
def qD (all:Lz) (f:Acc):Lz->Nat->List Lz->Lz×Nat×Lz
 | a,n,[]=>(a,n,[])
 | a,n,w :: r=>if w = [45,45] then (a,n+1,[]) else if w.length<2∨w[0]?≠some 45 then (a,n,[]) else
   if (YS all f a w.tail).2 = [] then qD all f (YS all f a w.tail).1 (n+1) r else ((YS all f a w.tail).1,n,(YS all f a w.tail).2)
def QT (k:Int):Lz:=if k=1 then [112] else if k=2 then [100,102,114,82] else if k=3 then [102,110,115,84] else if k=4 then [102,110,84] else if k=5 then [102,110,114,82,80,84] else []
abbrev Yp:Acc:=fun s c=>s++[c]
theorem zcw {all:Lz} {f:Acc} {a w:Lz} {i:Nat} (hi:i<w.length):YS all f a (w.drop i)=if w[i]∈all then YS all f (f a w[i]) (w.drop (i+1)) else (a,[w[i]]):=by
 rw[Ou hi,YS]
theorem Nm {all:Lz} {f:Acc} {a:Lz} {n:Nat} (hn:n<l.length):qD all f a n (l.drop n)=if l[n] = [45,45] then (a,n+1,[]) else if l[n].length<2∨l[n][0]?≠some 45 then (a,n,[]) else
   if (YS all f a l[n].tail).2 = [] then qD all f (YS all f a l[n].tail).1 (n+1) (l.drop (n+1)) else ((YS all f a l[n].tail).1,n,(YS all f a l[n].tail).2):=by
 rw[Ou hn,qD]
theorem zk0 {w:Lz} {i:Nat} (hi:i<w.length):(w.take (i+1)).drop i = [w[i]]:=by
 rw[WX,Wa hi];exact List.drop_left' (by rw[W5];omega)
theorem yn (k:Int) (l:List Lz) (hk:k=1∨k=2∨k=3∨k=4∨k=5) (hl:l.length<=100) (hs:∀ x∈l,x.length<=1000) :
  Fun Tryz.prog G0 68 [.sc (.int .i64 k),.sl 1 (zL l)] (.tup [.str (qD (QT k) Yp [] 0 l).1,.sc (.int .i64 (qD (QT k) Yp [] 0 l).2.1),.str (qD (QT k) Yp [] 0 l).2.2]) 0:=by
 obtain ⟨A,hA⟩:∃ A,QT k=A:=⟨_,rfl⟩;have hall:A.length<=1000000:=by
  subst hA;rcases hk with rfl | rfl | rfl | rfl | rfl<;>decide
 rw[hA];refine fon Tryz.func68 ?_;dsimp only[Tryz.f68];rcases hk with rfl | rfl | rfl | rfl | rfl
 case' inl=>have e:A = [112]:=hA.symm.trans rfl
 case' inr.inl=>have e:A = [100,102,114,82]:=hA.symm.trans rfl
 case' inr.inr.inl=>have e:A = [102,110,115,84]:=hA.symm.trans rfl
 case' inr.inr.inr.inl=>have e:A = [102,110,84]:=hA.symm.trans rfl
 case' inr.inr.inr.inr=>have e:A = [102,110,114,82,80,84]:=hA.symm.trans rfl
 all_goals
  push_cast;refine loop (fun p:Nat×Lz=>⟨[(1,.sl 1 (zL l)),(7,.str A),(8,.str p.2),(9,.sc (.int .i64 p.1))],[],0,0⟩) (fun p=>p.1<=l.length/\qD A Yp [] 0 l=qD A Yp p.2 p.1 (l.drop p.1)/\p.2.length<=1000*p.1) (fun p=>l.length-p.1) (0,[]) ⟨Wc _,rfl,Wc _⟩ ?_ ?_
  ·exact wk (by push_cast [ze,zd,CLe,zh,e])
  ·clear e hA;rintro ⟨n,s⟩ ⟨hn,hq,hsl⟩;dsimp only at hn hq hsl ⊢;by_cases h:n<l.length
   ·have hg:=U1 l n h;have hlw:=hs l[n] (Wv h);have hstep:=Nm (all:=A) (f:=Yp) (a:=s) h;generalize hw:l[n]=w at hg hlw hstep;by_cases h45:w = [45,45]
    ·rw[if_pos h45]at hstep;have hr:=hq.trans hstep;push_cast [h,hg,h45]
     repeat refine an ?_
     exact dn (by push_cast [ze,zd,CLe,zh,hr])
    ·rw[if_neg h45]at hstep;by_cases h2:w.length<2
     ·rw[if_pos (.inl h2)]at hstep;have hr:=hq.trans hstep;have h2':((w.length:Int)<2)=True:=eq_true (by omega);push_cast [h,hg,h45,h2']
      repeat refine an ?_
      exact dn (by push_cast [ze,zd,CLe,zh,hr])
     ·have h2':((w.length:Int)<2)=False:=WR (by omega);have h0:w[0]?=some w[0]:=Wa (by omega);by_cases h3:w[0]=45
      ·have h3':((w[0].toNat:Int)=45)=True:=eq_true (by rw[h3];rfl);rw[if_neg (by rw[h0,h3];simp;omega)]at hstep;push_cast [h,hg,h45,h2',h0,h3']
       repeat refine an ?_
       refine loop (fun q:Nat×Lz=>⟨[(1,.sl 1 (zL l)),(7,.str A),(8,.str q.2),(9,.sc (.int .i64 n)),(10,.sc (.int .i64 q.1))],[],0,0⟩) (fun q=>1<=q.1/\q.1<=w.length/\YS A Yp s w.tail=YS A Yp q.2 (w.drop q.1)/\q.2.length+1<=1000*n+q.1) (fun q=>w.length-q.1) (1,s) ⟨Wb _,by dsimp only;omega,by simp,by dsimp only;omega⟩ ?_ ?_
       ·exact wk
       ·rintro ⟨i,t⟩ ⟨hi1,hi2,hi3,hi4⟩;dsimp only at hi1 hi2 hi3 hi4 ⊢;by_cases hi:i<w.length
        ·have hgi:w[i]?=some w[i]:=Wa hi;have hws:=zcw (all:=A) (f:=Yp) (a:=t) hi;push_cast [h,hg,hi,hgi]
         repeat refine an ?_
         refine cl (US A w[i] hall) ?_;push_cast;by_cases hm:w[i]∈A
         ·rw[if_pos hm]at hws;push_cast [hm,hg,hgi]
          repeat refine an ?_
          refine ⟨(i+1,t++[w[i]]),⟨by omega,by dsimp only;omega,hi3.trans hws,by simp;omega⟩,by dsimp only;omega,wk (by push_cast [ze,zd,CLe,zh,zk0 hi])⟩
         ·rw[if_neg hm]at hws;rw[if_neg (by rw[hi3,hws];simp),hi3,hws]at hstep;have hr:=hq.trans hstep;push_cast [hm,hg,hgi]
          repeat refine an ?_
          exact dn (by push_cast [ze,zd,CLe,zh,hr,zk0 hi])
        ·have hil:i=w.length:=by omega
         rw[hil,AJ,YS]at hi3;rw[if_pos (by rw[hi3]),hi3]at hstep;push_cast [h,hg,hi]
         repeat refine an ?_
         exact ⟨(n+1,t),⟨by dsimp only;omega,hq.trans hstep,by dsimp only;omega⟩,by dsimp only;omega,wk⟩
      ·have h3':((w[0].toNat:Int)=45)=False:=WR (fun hh=>h3 (Ak.1 (by show _=45;omega)));rw[if_pos (.inr (by rw[h0];simpa using h3))]at hstep;have hr:=hq.trans hstep;push_cast [h,hg,h45,h2',h0,h3']
       repeat refine an ?_
       exact dn (by push_cast [ze,zd,CLe,zh,hr])
   ·have hkl:n=l.length:=by omega
    subst hkl;have hr:=hq;rw[AJ,qD]at hr;push_cast [h];exact dn (by push_cast [ze,zd,CLe,zh,hr])
def zgp (k:Int):Nat:=if k=4∨k=5 then 2 else 1
def jZ (k:Int) (o:Lz) (ops:List Lz):Lz:=
 if ops.length=0 then (if k=2/\102∈o then [] else [109,105,115,115,105,110,103,32,111,112,101,114,97,110,100])
 else if ops.length<(if 84∈o then 2 else zgp k) then [109,105,115,115,105,110,103,32,100,101,115,116,105,110,97,116,105,111,110,32,111,112,101,114,97,110,100,32,97,102,116,101,114,32]++quoteL (ops.getD (ops.length-1) [])
 else if 84∈o/\2<ops.length then [101,120,116,114,97,32,111,112,101,114,97,110,100,32]++quoteL (ops.getD 2 []) else []
theorem Z2 (l:Lz):(quoteL l).length<=4*l.length+2:=by
 have:=QuoteWalk.mid_len l;simp only[quoteL,Wh,Wq,WC];omega
structure zqT where
 kind:Int
 opts:Lz
 operands:List Lz
def JW (w:Lz):Nat->Int
 | 0=>0
 | j+1=>if jV ((j+1:Nat):Int)=w then ((j+1:Nat):Int) else JW w j
def XN:zqT:=⟨0,[],[]⟩
def j4 (kind:Int) (w:Lz) (q:Lz×Nat×Lz) (r:List Lz):zqT×Lz:=
 if q.2.2≠[] then (XN,w++[58,32,105,110,118,97,108,105,100,32,111,112,116,105,111,110,32]++quoteL q.2.2)
 else if jZ kind (Yu kind q.1 58) (r.drop q.2.1)≠[] then (XN,w++[58,32]++jZ kind (Yu kind q.1 58) (r.drop q.2.1))
 else (⟨kind,Yu kind q.1 58,r.drop q.2.1⟩,[])
def Yw:List Lz->zqT×Lz
 | []=>(XN,[109,105,115,115,105,110,103,32,99,111,109,109,97,110,100])
 | w :: r=>if JW w 5=0 then (XN,quoteL w++[58,32,117,110,107,110,111,119,110,32,99,111,109,109,97,110,100])
  else j4 (JW w 5) w (qD (QT (JW w 5)) Yp [] 0 r) r
theorem Mu (w:Lz):∀ j,0<=JW w j/\JW w j<=j
 | 0=>⟨Ai _,Ai _⟩
 | j+1=>by
  have:=Mu w j;unfold JW;split<;>omega
theorem MP (A:Lz) (f:Acc):∀ (w s:Lz),(YS A f s w).2.length<=1
 | [],s=>Wc _
 | c :: w,s=>by
  rw[YS];split
  ·exact MP A f w _
  ·exact Wb _
theorem M5 (A:Lz):∀ (w s:Lz),(YS A Yp s w).1.length<=s.length+w.length
 | [],s=>by simp[YS]
 | c :: w,s=>by
  rw[YS];split
  ·have h0:(Yp s c).length=s.length+1:=by simp
   have:=M5 A w (Yp s c);simp only[Wh];omega
  ·simp only[Wh];omega
theorem V5 (A:Lz):∀ (l:List Lz) (s:Lz) (n:Nat),(∀ x∈l,x.length<=1000)->(qD A Yp s n l).1.length<=s.length+1000*l.length/\(qD A Yp s n l).2.1<=n+l.length/\(qD A Yp s n l).2.2.length<=1
 | [],s,n,_=>by simp[qD]
 | w :: l,s,n,h=>by
  have hw:=h w (Wj ..);have h1:=MP A Yp w.tail s;have h2:=M5 A w.tail s;have h3:w.tail.length<=1000:=by rw[List.length_tail];omega
  have ih:=V5 A l (YS A Yp s w.tail).1 (n+1) fun x hx=>h x (Wk _ hx);rw[qD];simp only[Wh];split
  ·simp only[WC];omega
  ·split
   ·simp only[WC];omega
   ·split
    ·omega
    ·dsimp only;omega
abbrev zsw (c:zqT):C:=.agg [.sc (.int .i64 c.kind),.str c.opts,.own 0 9 1 (zL c.operands)]
theorem zgt (l:List Lz) (hl:l.length<=100) (hs:∀ x∈l,x.length<=1000) :
  Fun Tryz.prog G0 31 [.sl 1 (zL l)] (.tup [zsw (Yw l).1,.str (Yw l).2]) 1:=by
 refine fof (fun i=>if i=15 then [false,false,false,false,false,false,true,false,true] else []) Tryz.func31 ?_;dsimp only[Tryz.f31];rcases l with _ | ⟨w,r⟩
 ·push_cast [zL,WL,WC];exact ⟨[.inr (9,1)],rfl,rfl,by push_cast [ze,zd,CLe,zh,Yw,XN]<;>rfl⟩
 ·have hlr:r.length<=99:=by simp at hl;omega
  have hw:=hs w (Wj ..);have hsr:∀ x∈r,x.length<=1000:=fun x hx=>hs x (Wk _ hx);have hsC:zL (w :: r) = [.str w] :: zL r:=rfl;have hp0:((r.length:Int)+1=0)=False:=WR (by omega);rw[hsC];push_cast [hp0];refine loop (fun j:Nat=>⟨[(0,.sl 1 ([.str w] :: zL r)),(2,.ptr 0 0),(4,.sc (.int .i64 (JW w j))),(5,.sc (.int .i64 ((j:Int)+1)))],[[.sc (.int .i64 0),.str [],.sc (.slice none 0 0)]],0,0⟩) (fun j=>j<=5) (fun j=>5-j) 0 (Wc _) ?_ ?_
  ·exact wk (by push_cast [ze,zd,CLe,zh,JW])
  ·rintro j hj;by_cases h:j<5
   ·have hp1:((j:Int)+1<=5)=True:=eq_true (by omega);push_cast [hp1];refine cl (xQ ((j:Int)+1)) ?_;push_cast;have hku:JW w (j+1)=if jV ((j:Int)+1)=w then (j:Int)+1 else JW w j:=by simp[JW]
    by_cases hm:jV ((j:Int)+1)=w
    ·rw[if_pos hm]at hku;push_cast [hm]
     repeat refine an ?_
     exact ⟨j+1,by omega,by omega,wk (by push_cast [ze,zd,CLe,zh,hku])⟩
    ·rw[if_neg hm]at hku;push_cast [hm]
     repeat refine an ?_
     exact ⟨j+1,by omega,by omega,wk (by push_cast [ze,zd,CLe,zh,hku])⟩
   ·have hp1:((j:Int)+1<=5)=False:=WR (by omega);have hj5:j=5:=by omega
    subst hj5;have hkle:=Mu w 5;have hrd:Yw (w :: r)=if JW w 5=0 then (XN,quoteL w++[58,32,117,110,107,110,111,119,110,32,99,111,109,109,97,110,100]) else j4 (JW w 5) w (qD (QT (JW w 5)) Yp [] 0 r) r:=rfl;generalize JW w 5=K at hkle hrd ⊢;by_cases hK0:K=0
    ·rw[if_pos hK0]at hrd;have hq:=Z2 w;push_cast [hp1,hK0];refine cl (QE w (by omega)) ?_;push_cast
     repeat refine an ?_
     exact ⟨[.inr (9,1)],rfl,rfl,by push_cast [ze,zd,CLe,zh,hrd,XN]<;>rfl⟩
    ·rw[if_neg hK0]at hrd;have hkk:K=1∨K=2∨K=3∨K=4∨K=5:=by omega
     have hlet:=yn K r hkk (by omega) hsr;have hbnd:=V5 (QT K) r [] 0 hsr;generalize qD (QT K) Yp [] 0 r=q at hlet hbnd hrd ⊢;obtain ⟨s,n,bad⟩:=q;dsimp only at hlet hbnd;push_cast [hp1,hK0]
     repeat refine an ?_
     refine cl hlet ?_;push_cast;by_cases hbad:bad = []
     ·have hdr:List.drop (1+(n:Int)).toNat ([C.str w] :: zL r)=zL (r.drop n):=by
       rw[show (1+(n:Int)).toNat=n+1 by omega,A8];simp[zL]
      have hop:(r.drop n).length<=99:=by rw[WZ];omega
      have hso:∀ x∈r.drop n,x.length<=1000:=fun x hx=>hsr x (WS hx);have hrt:j4 K w (s,n,bad) r=if jZ K (Yu K s 58) (r.drop n)≠[] then (XN,w++[58,32]++jZ K (Yu K s 58) (r.drop n)) else (⟨K,Yu K s 58,r.drop n⟩,[]):=by
       unfold j4;rw[if_neg (by simpa using hbad)]
      rw[hrt]at hrd;have h84:=US (Yu K s 58) 84 (by have:=OG (isO K s) ((List.range' 65 58).map UInt8.ofNat);simp at this;unfold Yu;omega);have h102:=US (Yu K s 58) 102 (by have:=OG (isO K s) ((List.range' 65 58).map UInt8.ofNat);simp at this;unfold Yu;omega);generalize r.drop n=ops at hop hso hrd hdr;push_cast [hbad];refine cl (yx K s (by simp at hbnd;omega)) ?_;push_cast [hdr];generalize Yu K s 58=O at h84 h102 hrd ⊢
      repeat refine an ?_
      have hleast:zgp K=if 4<=K then 2 else 1:=by
       unfold zgp;by_cases h4:4<=K
       ·rw[if_pos h4,if_pos (by omega)]
       ·rw[if_neg h4,if_neg (by omega)]
      rcases ops with _ | ⟨x,_ | ⟨y,_ | ⟨z,t⟩⟩⟩
      ·by_cases hK2:K=2/\102∈O
       ·have hwv:jZ K O [] = []:=by simp[jZ,hK2]
        have hr2:=hrd;rw[hwv,if_neg (by simp)]at hr2;have h4:¬4<=K:=by omega
        have hK2':=hK2.1;have m102:=hK2.2;by_cases m84:84∈O
        all_goals
         push_cast [h4,zL,WL,Wp,WC,Wh];refine cl h84 ?_;push_cast [m84,hK2',zL,WL,Wp,WC,Wh];refine cl h102 ?_;push_cast [m102,zL,WL,Wp,WC,Wh];exact ⟨[.inl 0],rfl,rfl,by push_cast [ze,zd,CLe,zh,hr2,hK2',zL,WL,Wp,WC,Wh]⟩
       ·have hwv:jZ K O [] = [109,105,115,115,105,110,103,32,111,112,101,114,97,110,100]:=by simp[jZ,hK2]
        have hr2:=hrd;rw[hwv,if_pos (by simp)]at hr2;by_cases hK2':K=2
        ·have m102:102∉O:=fun h=>hK2 ⟨hK2',h⟩;have h4:¬4<=K:=by omega
         by_cases m84:84∈O
         all_goals
          push_cast [h4,zL,WL,Wp,WC,Wh];refine cl h84 ?_;push_cast [m84,hK2',zL,WL,Wp,WC,Wh];refine cl h102 ?_;push_cast [m102,zL,WL,Wp,WC,Wh]
          repeat refine an ?_
          exact ⟨[.inr (9,1)],rfl,rfl,by push_cast [ze,zd,CLe,zh,hr2,XN,WQ,Od,Ox]<;>rfl⟩
        ·by_cases h4:4<=K<;>by_cases m84:84∈O
         all_goals
          push_cast [h4,hK2',zL,WL,Wp,WC,Wh]
          try refine cl h84 ?_;push_cast [m84,hK2',zL,WL,Wp,WC,Wh]
          repeat refine an ?_
          exact ⟨[.inr (9,1)],rfl,rfl,by push_cast [ze,zd,CLe,zh,hr2,XN,WQ,Od,Ox]<;>rfl⟩
      ·have hx:=hso x (by simp);have hqx:=Z2 x;by_cases hl2:4<=K∨84∈O
       ·have hwv:jZ K O [x] = [109,105,115,115,105,110,103,32,100,101,115,116,105,110,97,116,105,111,110,32,111,112,101,114,97,110,100,32,97,102,116,101,114,32]++quoteL x:=by
         unfold jZ;rw[if_neg (by simp),if_pos (by rw[hleast];rcases hl2 with h | h<;>simp[h])];rfl
        have hr2:=hrd;rw[hwv,if_pos (by simp)]at hr2;have h3:(4<=K/\84∈O)∨(4<=K/\84∉O)∨(¬4<=K/\84∈O):=by
         by_cases a:4<=K<;>by_cases b:84∈O<;>simp[a,b]at hl2 ⊢
        rcases h3 with ⟨h4,m84⟩ | ⟨h4,m84⟩ | ⟨h4,m84⟩
        all_goals
         push_cast [h4,zL,WL,Wp,WC,Wh]
         try refine cl h84 ?_;push_cast [m84,zL,WL,Wp,WC,Wh]
         repeat refine an ?_
         refine cl (QE x (by omega)) ?_;push_cast
         repeat refine an ?_
         exact ⟨[.inr (9,1)],rfl,rfl,by push_cast [ze,zd,CLe,zh,hr2,XN,WQ,Od,Ox]<;>rfl⟩
       ·have h4:¬4<=K:=fun h=>hl2 (.inl h);have m84:84∉O:=fun h=>hl2 (.inr h);have hwv:jZ K O [x] = []:=by
         unfold jZ;rw[if_neg (by simp),hleast];simp[h4,m84]
        have hr2:=hrd;rw[hwv,if_neg (by simp)]at hr2;push_cast [h4,zL,WL,Wp,WC,Wh];refine cl h84 ?_;push_cast [m84,zL,WL,Wp,WC,Wh];exact ⟨[.inl 0],rfl,rfl,by push_cast [ze,zd,CLe,zh,hr2,zL,WL,Wp,WC,Wh]⟩
      ·have hwv:jZ K O [x,y] = []:=by
        unfold jZ;rw[if_neg (by simp),hleast];by_cases h4:4<=K<;>by_cases m84:84∈O<;>simp[h4,m84]
       have hr2:=hrd;rw[hwv,if_neg (by simp)]at hr2;by_cases h4:4<=K<;>by_cases m84:84∈O
       all_goals
        push_cast [h4,zL,WL,Wp,WC,Wh]
        try refine cl h84 ?_;push_cast [m84,zL,WL,Wp,WC,Wh]
        exact ⟨[.inl 0],rfl,rfl,by push_cast [ze,zd,CLe,zh,hr2,zL,WL,Wp,WC,Wh]⟩
      ·have hz:=hso z (by simp);have hqz:=Z2 z;have hp0:((t.length:Int)+1+1+1=0)=False:=WR (by omega);have hp2:((t.length:Int)+1+1+1<2)=False:=WR (by omega);have hp3:((t.length:Int)+1+1+1<1)=False:=WR (by omega);have hp4:(2<(t.length:Int)+1+1+1)=True:=eq_true (by omega);have hp5:(0<(t.length:Int)+1+1+1)=True:=eq_true (by omega);by_cases m84:84∈O
       ·have hwv:jZ K O (x :: y :: z :: t) = [101,120,116,114,97,32,111,112,101,114,97,110,100,32]++quoteL z:=by
         unfold jZ;rw[if_neg (by simp),hleast,if_neg (by simp[m84]),if_pos (by simp[m84])];rfl
        have hr2:=hrd;rw[hwv,if_pos (by simp)]at hr2;by_cases h4:4<=K
        all_goals
         push_cast [h4,hp0,hp2,hp3,hp4,hp5,zL,WL,Wp,WC,Wh]
         try refine cl h84 ?_;push_cast [m84,hp0,hp2,hp3,hp4,hp5,zL,WL,Wp,WC,Wh]
         try refine cl h84 ?_;push_cast [m84,hp0,hp2,hp3,hp4,hp5,zL,WL,Wp,WC,Wh]
         repeat refine an ?_
         refine cl (QE z (by omega)) ?_;push_cast
         repeat refine an ?_
         exact ⟨[.inr (9,1)],rfl,rfl,by push_cast [ze,zd,CLe,zh,hr2,XN,WQ,Od,Ox]<;>rfl⟩
       ·have hwv:jZ K O (x :: y :: z :: t) = []:=by
         unfold jZ;rw[if_neg (by simp),hleast];by_cases h4:4<=K<;>simp[h4,m84]
        have hr2:=hrd;rw[hwv,if_neg (by simp)]at hr2;by_cases h4:4<=K
        all_goals
         push_cast [h4,hp0,hp2,hp3,hp4,hp5,zL,WL,Wp,WC,Wh]
         try refine cl h84 ?_;push_cast [m84,hp0,hp2,hp3,hp4,hp5,zL,WL,Wp,WC,Wh]
         try refine cl h84 ?_;push_cast [m84,hp0,hp2,hp3,hp4,hp5,zL,WL,Wp,WC,Wh]
         exact ⟨[.inl 0],rfl,rfl,by push_cast [ze,zd,CLe,zh,hr2,zL,WL,Wp,WC,Wh]⟩
     ·have hqb:=Z2 bad;have hrt:j4 K w (s,n,bad) r=(XN,w++[58,32,105,110,118,97,108,105,100,32,111,112,116,105,111,110,32]++quoteL bad):=by
       unfold j4;rw[if_pos (by simpa using hbad)]
      rw[hrt]at hrd;push_cast [hbad]
      repeat refine an ?_
      refine cl (QE bad (by omega)) ?_;push_cast
      repeat refine an ?_
      exact ⟨[.inr (9,1)],rfl,rfl,by push_cast [ze,zd,CLe,zh,hrd,XN]<;>rfl⟩
theorem zeU (l:List Lz):(Yw l).1.operands.length<=l.length:=by
 cases l with
 | nil=>simp[Yw,XN]
 | cons w r =>
  rw[Yw];split
  ·simp[XN]
  ·unfold j4;split
   ·simp[XN]
   ·split
    ·simp[XN]
    ·simp only[WZ,Wh];omega
end
section
open CA CB
open Go.RowKit
abbrev zd1 (k:Int) (o:Lz) (ops:List Lz):List C:=[.sc (.int .i64 k),.str o,.sl 1 (zL ops)]
theorem zfE (d:qh) (hd:d.diags.length<=80000) (k w:Int) (a b:Lz) (e:Int) (ha:a.length<=3000) (hb:b.length<=3000):Fun Tryz.prog GD 36 [Hr d,.sc (.int .i64 k),.sc (.int .i64 w),.str a,.str b,.sc (.int .i64 e)] (Hr (qJ d (j8 k w a b e))) 0:=
 (zgX d hd k w a b e ha hb).weak (by push_cast [ze,zd,CLe,zh,qJ])
end
section
open CA CB
open Go.RowKit
theorem zkg {p:Lz} (h:zl (zG f b p true).1.ino f.xs=false):Gf f b p=false:=by
 unfold Gf;rw[zeY h,AE];exact .inr rfl
theorem zhX (f:FsV) (hf:FsI f) (hr:FsR f) (hs:FsS f) (hd:Hh f.xs) (b p:Lz) (hb:b.length<=100000) (hp:p.length<=3000):Fun Tryz.prog G0 74 [.agg (fsC f),.str b,.str p] (.sc (.bool (Gf f b p))) 0:=by
 have hsk:=Qi f hf hr hs hd b p true hb hp;have hg:=jk (G:=G0) f (zG f b p true).1.ino (by have:=hs.len;omega) hf.rises;have e:Gf f b p=(decide ((zG f b p true).2=0)&&decide ((zg (zG f b p true).1.ino f.xs).kind=2)):=rfl;have hno:=zkg (f:=f) (b:=b) (p:=p);by_cases h1:(zG f b p true).2=0
 ·have h1':=eq_true h1;rw[Wn h1,OA]at e;cases hh:zl (zG f b p true).1.ino f.xs with
  | false =>
   rw[hh]at hg;rw[hno hh];refine fon Tryz.func74 ?_;dsimp only[Tryz.f74];push_cast;refine cl hsk ?_;push_cast [h1'];refine cl hg ?_;push_cast [h1'];exact dn
  | true =>
   rw[hh]at hg;rw[e];refine fon Tryz.func74 ?_;dsimp only[Tryz.f74];push_cast;refine cl hsk ?_;push_cast [h1'];refine cl hg ?_;push_cast [h1'];exact dn
 ·have h1':=WR h1;rw[Wm h1,Oa]at e;rw[e];refine fon Tryz.func74 ?_;dsimp only[Tryz.f74];push_cast;refine cl hsk ?_;push_cast [h1'];refine cl hg ?_;push_cast [h1'];exact dn
theorem Un {ops:List Lz} (h:0<ops.length):ops[ops.length-1]?=some (ops.getLastD []):=by
 rcases AX ops with e | ⟨l,x,e⟩
 ·rw[e]at h;exact absurd h (Nat.lt_irrefl 0)
 ·rw[e,AG,List.getLastD_concat];simp
theorem zjs (f:FsV) (hf:FsI f) (hr:FsR f) (hs:FsS f) (hd:Hh f.xs) (b:Lz) (hb:b.length<=100000) (k:Int) (o:Lz) (ops:List Lz) (hn:ops.length<=1000) (hp:∀ x∈ops,x.length<=1000):Fun Tryz.prog G0 48 [.agg (fsC f),.str b,.agg (zd1 k o ops)] (.sc (.bool (zfS f b k o ops))) 0:=by
 have hll:(zL ops).length=ops.length:=We ..;have e:zfS f b k o ops=(!decide (ops.length<2)&&!decide ((84:UInt8)∈o)&&!zgP f b k o (ops.getLastD [])&&Gf f b (ops.getLastD [])):=rfl;have h84:=Np k o (.sl 1 (zL ops)) 84 rfl;have h110:=Np k o (.sl 1 (zL ops)) 110 rfl;by_cases c1:ops.length<2
 ·have c1':=eq_true (show (ops.length:Int)<2 by omega);rw[Wn c1]at e;rw[e];refine fon Tryz.func48 ?_;dsimp only[Tryz.f48];push_cast [hll,c1'];exact dn (by push_cast [ze,zd,CLe,zh,AR,Oa])
 have c1':=WR (show ¬(ops.length:Int)<2 by omega);rw[Wm c1]at e;by_cases c2:(84:UInt8)∈o
 ·rw[Wn c2]at e h84;rw[e];refine fon Tryz.func48 ?_;dsimp only[Tryz.f48];push_cast [hll,c1'];refine cl h84 ?_;push_cast;exact dn (by push_cast [ze,zd,CLe,zh,AR,Oa,Aj])
 rw[Wm c2]at e h84;have hlg:=Un (ops:=ops) (by omega);have hla:(zL ops)[ops.length-1]?=some [.str (ops.getLastD [])]:=by rw[Ww,hlg];rfl
 have hlx:((ops.length:Int)-1).toNat=ops.length-1:=by omega
 have hll2:(ops.getLastD []).length<=1000:=hp _ (Wf hlg);have hdi:=zhX f hf hr hs hd b (ops.getLastD []) hb (by omega);have hsk:=Qi f hf hr hs hd b (ops.getLastD []) false hb (by omega);have hg:=jk (G:=G0) f (zG f b (ops.getLastD []) false).1.ino (by have:=hs.len;omega) hf.rises;have el:zgP f b k o (ops.getLastD [])=(decide (k=3)&&decide ((110:UInt8)∈o)&&decide ((zG f b (ops.getLastD []) false).2=0)&&decide ((zg (zG f b (ops.getLastD []) false).1.ino f.xs).kind=3)):=rfl;clear hlg;generalize ops.getLastD []=p at *;have hno:zl (zG f b p false).1.ino f.xs=false->(zg (zG f b p false).1.ino f.xs).kind≠3:=fun q=>by rw[zeY q];exact show ¬(0:Int)=3 by decide
 generalize zG f b p false=T at *;by_cases c3:k=3
 ·have c3':=eq_true c3;by_cases c4:(110:UInt8)∈o
  ·rw[Wn c4]at h110 el;rw[Wn c3]at el;by_cases c5:T.2=0
   ·have c5':=eq_true c5;rw[Wn c5]at el;cases c6:zl T.1.ino f.xs with
    | false =>
     rw[c6]at hg;rw[Wm (hno c6)]at el;rw[el]at e;rw[e];refine fon Tryz.func48 ?_;dsimp only[Tryz.f48];push_cast [hll,c1'];refine cl h84 ?_;push_cast;push_cast [hll,hla,hlx,c3']
     repeat refine an ?_
     refine cl h110 ?_;push_cast;refine cl hsk ?_;push_cast [c5'];refine cl hg ?_;push_cast [c5'];refine cl hdi ?_;push_cast;exact dn (by push_cast [ze,zd,CLe,zh,Aj,Ax,OA])
    | true =>
     rw[c6]at hg;by_cases c7:(zg T.1.ino f.xs).kind=3
     ·have c7':=eq_true c7;rw[Wn c7]at el;rw[el]at e;rw[e];refine fon Tryz.func48 ?_;dsimp only[Tryz.f48];push_cast [hll,c1'];refine cl h84 ?_;push_cast;push_cast [hll,hla,hlx,c3']
      repeat refine an ?_
      refine cl h110 ?_;push_cast;refine cl hsk ?_;push_cast [c5'];refine cl hg ?_;push_cast [c5',c7'];exact dn (by push_cast [ze,zd,CLe,zh,Bj,AR,Aj,Oa])
     ·have c7':=WR c7;rw[Wm c7]at el;rw[el]at e;rw[e];refine fon Tryz.func48 ?_;dsimp only[Tryz.f48];push_cast [hll,c1'];refine cl h84 ?_;push_cast;push_cast [hll,hla,hlx,c3']
      repeat refine an ?_
      refine cl h110 ?_;push_cast;refine cl hsk ?_;push_cast [c5'];refine cl hg ?_;push_cast [c5',c7'];refine cl hdi ?_;push_cast;exact dn (by push_cast [ze,zd,CLe,zh,Aj,Ax,OA])
   ·have c5':=WR c5;rw[Wm c5,Aj,Oa]at el;rw[el]at e;rw[e];refine fon Tryz.func48 ?_;dsimp only[Tryz.f48];push_cast [hll,c1'];refine cl h84 ?_;push_cast;push_cast [hll,hla,hlx,c3']
    repeat refine an ?_
    refine cl h110 ?_;push_cast;refine cl hsk ?_;push_cast [c5'];refine cl hg ?_;push_cast [c5'];refine cl hdi ?_;push_cast;exact dn (by push_cast [ze,zd,CLe,zh,Aj,Ax,OA])
  ·rw[Wm c4]at h110 el;rw[Aj,Oa,Oa]at el;rw[el]at e;rw[e];refine fon Tryz.func48 ?_;dsimp only[Tryz.f48];push_cast [hll,c1'];refine cl h84 ?_;push_cast;push_cast [hll,hla,hlx,c3']
   repeat refine an ?_
   refine cl h110 ?_;push_cast;refine cl hdi ?_;push_cast;exact dn (by push_cast [ze,zd,CLe,zh,Aj,Ax,OA])
 ·have c3':=WR c3;rw[Wm c3,Oa,Oa,Oa]at el;rw[el]at e;rw[e];refine fon Tryz.func48 ?_;dsimp only[Tryz.f48];push_cast [hll,c1'];refine cl h84 ?_;push_cast;push_cast [hll,hla,hlx,c3']
  repeat refine an ?_
  refine cl hdi ?_;push_cast;exact dn (by push_cast [ze,zd,CLe,zh,Aj,Ax,OA])
end
section
open CA CB
open Go.RowKit
theorem Z9 (f:FsV) (hf:FsI f) (hr:FsR f) (hs:FsS f) (hd:Hh f.xs) (b:Lz) (hb:b.length<=100000) (k:Int) (o:Lz) (ops:List Lz) (hn:ops.length<=1000) (hp:∀ x∈ops,x.length<=1000):Fun Tryz.prog G0 22 [.agg (fsC f),.str b,.agg (zd1 k o ops)] (.tup [.sl 1 (zL ((jW f b k o ops).getD [])),.sc (.bool (jW f b k o ops).isSome)]) 0:=by
 have hll:(zL ops).length=ops.length:=We ..;have hin:=zjs f hf hr hs hd b hb k o ops hn hp;by_cases c1:ops.length=1
 ·have c1':=eq_true (show (ops.length:Int)=1 by omega);obtain ⟨p,rfl⟩:=List.length_eq_one_iff.1 c1;have e:jW f b k o [p]=some [ZU p]:=rfl;have hba:=zaA p (by have:=hp p Wj;omega);rw[e];refine fon Tryz.func22 ?_;dsimp only[Tryz.f22];push_cast [zL,Wp,WL,Wh,WC]
  repeat refine an ?_
  refine cl hba ?_;push_cast;exact dn (by push_cast [ze,zd,CLe,zh,Oi,AW,zL,Wp,WL])
 have c1':=WR (show ¬(ops.length:Int)=1 by omega);cases c2:zfS f b k o ops with
 | true =>
  rw[c2]at hin;have e:jW f b k o ops=some (ops.dropLast.map fun p=>VH (ops.getLastD []) (ZU p)):=by unfold jW;rw[if_neg c1,if_pos c2]
  have hn2:¬ops.length<2:=fun q=>by
   unfold zfS at c2;rw[Wn q]at c2;cases c2
  have hlg:=Un (ops:=ops) (by omega);have hla:(zL ops)[ops.length-1]?=some [.str (ops.getLastD [])]:=by rw[Ww,hlg];rfl
  have hlx:((ops.length:Int)-1).toNat=ops.length-1:=by omega
  have hl2:(ops.getLastD []).length<=1000:=hp _ (Wf hlg);have hdl:ops.take (ops.length-1)=ops.dropLast:=List.dropLast_eq_take.symm;have hpd:∀ x∈ops.dropLast,x.length<=1000:=fun x hx=>hp x (List.dropLast_subset _ hx);have hdn:ops.dropLast.length=ops.length-1:=List.length_dropLast;clear hlg hp;rw[e];generalize ops.getLastD []=z at *;generalize ops.dropLast=dl at *;have hdll:(zL dl).length=dl.length:=We ..;have hdc:((ops.length:Int)-1)=(dl.length:Int):=by omega
  refine fof (fun i=>if i=9 then [false,false,false,false,false,false,false,false,false,false,false,true] else []) Tryz.func22 ?_;dsimp only[Tryz.f22];push_cast [hll,c1'];refine cl hin ?_;push_cast;push_cast [hll,hlx,hdl,hdll]
  repeat refine an ?_
  push_cast [hll,hlx,hdl,hdll];refine loop (fun i:Nat=>⟨[(5,.ptr 1 0),(8,.sc (.int .i64 (ops.length:Nat))),(9,.own 0 9 1 (zL ((dl.take i).map fun p=>VH z (ZU p)))),(33,.sl 1 (zL dl)),(34,.sc (.int .i64 (dl.length:Nat))),(35,.sc (.int .i64 i))],[[.any,.any,.any,.any],zd1 k o ops],1,0⟩) (fun i=>i<=dl.length) (fun i=>dl.length-i) 0 (Wc _) ?_ ?_
  ·exact wks [.inr (9,1)] (h4:=by push_cast [ze,zd,CLe,zh,OD,WL,zL,hdl])
  intro i hi;by_cases hlt:i<dl.length
  ·have hlt':=eq_true (show (i:Int)<dl.length by omega);have hgi:(zL dl)[i]?=some [.str dl[i]]:=by simp[zL,hlt]
   have hx:=hpd _ (Wv hlt);have ht:zL ((dl.take (i+1)).map fun p=>VH z (ZU p))=zL ((dl.take i).map fun p=>VH z (ZU p))++[[.str (VH z (ZU dl[i]))]]:=by
    rw[Ae hlt,Oc];exact Oc
   generalize dl[i]=p at *;have hba:=zaA p (by omega);have hbl:=ui p;have hj:=zhe z (ZU p) (by omega) (by omega);have htl:(zL ((dl.take i).map fun p=>VH z (ZU p))).length=i:=by simp[zL];omega
   push_cast [hlt',hgi,hll,hla,hlx,O0]
   repeat refine an ?_
   refine cl hba ?_;push_cast [hll,hla,hlx]
   repeat refine an ?_
   refine cl hj ?_;push_cast [htl]
   repeat refine an ?_
   exact ⟨i+1,by omega,by omega,wks [.inl 0] (h4:=by push_cast [ze,zd,CLe,zh,ht])⟩
  ·have hlt':=WR (show ¬(i:Int)<dl.length by omega);have hil:i=dl.length:=by omega
   rw[hil]at hlt' ⊢;rw[Oe];push_cast [hlt'];exact dn (by push_cast [ze,zd,CLe,zh,Oi,AW])
 | false =>
  rw[c2]at hin;by_cases c3:ops.length=2
  ·have c3':=eq_true (show (ops.length:Int)=2 by omega);have e:jW f b k o ops=some [ops.getLastD []]:=by unfold jW;rw[if_neg c1,if_neg (by rw[c2];decide),if_pos c3]
   have hlg:=Un (ops:=ops) (by omega);have hla:(zL ops)[1]?=some [.str (ops.getLastD [])]:=by rw[Ww,show (1:Nat)=ops.length-1 by omega,hlg];rfl
   rw[e];refine fon Tryz.func22 ?_;dsimp only[Tryz.f22];push_cast [hll,c1'];refine cl hin ?_;push_cast [hll,c3',hla]
   repeat refine an ?_
   exact dn (by push_cast [ze,zd,CLe,zh,Oi,AW,zL,Wp,WL])
  ·have c3':=WR (show ¬(ops.length:Int)=2 by omega);have e:jW f b k o ops=none:=by unfold jW;rw[if_neg c1,if_neg (by rw[c2];decide),if_neg c3]
   rw[e];refine fon Tryz.func22 ?_;dsimp only[Tryz.f22];push_cast [hll,c1'];refine cl hin ?_;push_cast [hll,c3'];exact dn (by push_cast [ze,zd,CLe,zh,Al,Bp,zL,WL])
end
section
open CA CB
open Go.RowKit
theorem GrD.s {N:Nat} {d:qh} (h:GrD N d) (hN:N<=9000):MF d:=h.b.s hN
theorem y9 (u:Lz) (hu:u.length<=3000):Fun Tryz.prog G0 103 [.str u] (.sc (.int .i64 (Vm u))) 0:=by
 have hc:=ZD u (by omega);have hl:=WR (show ¬(4095:Int)<u.length by omega);rcases Ob (u = []) with c | c
 ·have e:Vm u=1:=if_pos (O9 c);rw[e];refine fon Tryz.func103 ?_;dsimp only[Tryz.f103];push_cast [c];exact dn
 ·cases hb:(u.any fun b=>decide (b=0)) with
  | true =>
   have e:Vm u=9:=by unfold Vm;rw[if_neg (O2 c),hb,if_pos rfl]
   rw[hb]at hc;rw[e];refine fon Tryz.func103 ?_;dsimp only[Tryz.f103];push_cast [c,hl];refine cl hc ?_;push_cast;exact dn
  | false =>
   have e:Vm u=0:=by unfold Vm;rw[if_neg (O2 c),hb,if_neg (by decide)]
   rw[hb]at hc;rw[e];refine fon Tryz.func103 ?_;dsimp only[Tryz.f103];push_cast [c,hl];refine cl hc ?_;push_cast;exact dn
theorem xw (k:Int) (o:Lz) (ops:List Lz) (x:zm):Fun Tryz.prog G0 59 [.agg (zd1 k o ops),.agg (Ya x)] (.sc (.int .i64 (Gi o x))) 0:=by
 have hh:=Np k o (.sl 1 (zL ops)) 102 rfl;unfold Gi;by_cases c:(102:UInt8)∈o
 ·rw[Wn c]at hh;rw[if_pos c];rcases Ob (x.kind=2) with c2 | c2
  ·rw[if_pos (O9 c2)];refine fon Tryz.func59 ?_;dsimp only[Tryz.f59];push_cast;refine cl hh ?_;push_cast [c2];exact dn
  ·rw[if_neg (O2 c2)];refine fon Tryz.func59 ?_;dsimp only[Tryz.f59];push_cast;refine cl hh ?_;push_cast [c2];exact dn
 ·rw[Wm c]at hh;rw[if_neg c];refine fon Tryz.func59 ?_;dsimp only[Tryz.f59];push_cast;refine cl hh ?_;push_cast;exact dn
theorem x8 (t:zR) (v:Lz) (hv:v.length<=3000) (ht:t.name.length<=100000):Fun Tryz.prog G0 60 [.agg (Y8 t),.str v] (.sc (.int .i64 (HO t v))) 0:=by
 have hre:Fun Tryz.prog G0 107 [.str v] (.agg [qQ (zaf v),.own 0 9 1 (zL (zF v)),qQ (Ja v)]) 1:=Uo v (by omega);have hma:=vh t.name (by omega);unfold HO;cases c:Ja v with
 | true =>
  rw[c]at hre;rw[if_pos rfl];refine fon Tryz.func60 ?_;dsimp only[Tryz.f60];push_cast;refine cl hre ?_;push_cast;exact dn
 | false =>
  rw[c]at hre;rw[if_neg (by decide)];cases m:may t.name with
  | true =>
   rw[m]at hma;rw[if_pos rfl];refine fon Tryz.func60 ?_;dsimp only[Tryz.f60];push_cast;refine cl hre ?_;push_cast;refine cl hma ?_;push_cast;exact dn
  | false =>
   rw[m]at hma;rw[if_neg (by decide)];refine fon Tryz.func60 ?_;dsimp only[Tryz.f60];push_cast;refine cl hre ?_;push_cast;refine cl hma ?_;push_cast;exact dn
theorem H6 (f:FsV) (hi:FsI f) (hr:FsR f) (hs:FsS f) (hd:Hh f.xs) (b:Lz) (hb:b.length<=100000) (soft:Bool) (u:Lz) (hu:u.length<=3000):Fun Tryz.prog G0 56 [.agg (fsC f),.str b,.sc (.bool soft),.str u] (.tup [.agg (Y8 (JO f b soft u).1),.sc (.int .i64 (JO f b soft u).2.1),.sc (.int .i64 (JO f b soft u).2.2)]) 0:=by
 have htg:=y9 u hu;have hsk:=Qi f hi hr hs hd b u false hb hu;have hg:=jk (G:=G0) f (zG f b u false).1.ino (by have:=hs.len;omega) hi.rises;cases soft with
 | true =>
  have e:JO f b true u=(jh,8,Vm u):=rfl;rw[e];refine fon Tryz.func56 ?_;dsimp only[Tryz.f56];push_cast;refine cl htg ?_;push_cast;exact dn (by push_cast [ze,zd,CLe,zh,jh])
 | false =>
  have e:JO f b false u=if (zG f b u false).2≠0 then ((zG f b u false).1,5,(zG f b u false).2)
   else if zl (zG f b u false).1.ino f.xs=false then ((zG f b u false).1,5,1)
   else if (zg (zG f b u false).1.ino f.xs).kind=2 then ((zG f b u false).1,6,4)
   else ((zG f b u false).1,0,0):=rfl
  rw[e];clear e;generalize zG f b u false=A at *;generalize zg A.1.ino f.xs=X at *;rcases Ob (A.2=0) with c | c
  case inr =>
   rw[if_pos (O2 c)];refine fon Tryz.func56 ?_;dsimp only[Tryz.f56];push_cast;refine cl hsk ?_;push_cast [c];refine cl hg ?_;push_cast [c];exact dn
  rw[if_neg (fun q=>q (O9 c))];cases h2:zl A.1.ino f.xs with
  | false =>
   rw[h2]at hg;rw[if_pos rfl];refine fon Tryz.func56 ?_;dsimp only[Tryz.f56];push_cast;refine cl hsk ?_;push_cast [c];refine cl hg ?_;push_cast [c];exact dn
  | true =>
   rw[h2]at hg;rw[if_neg (by decide)];rcases Ob (X.kind=2) with c3 | c3
   ·rw[if_pos (O9 c3)];refine fon Tryz.func56 ?_;dsimp only[Tryz.f56];push_cast;refine cl hsk ?_;push_cast [c];refine cl hg ?_;push_cast [c,c3];exact dn
   ·rw[if_neg (O2 c3)];refine fon Tryz.func56 ?_;dsimp only[Tryz.f56];push_cast;refine cl hsk ?_;push_cast [c];refine cl hg ?_;push_cast [c,c3];exact dn
theorem zks (hok:okM f) (hi:FsI f) (hr:FsR f) {m:Int} (hk:(zg m f.xs).kind=2):(zg (zg m f.xs).parent f.xs).kind=2:=by
 obtain ⟨ns,_,_,hl⟩:=zhW hok (YK hk) hk;rcases hl.inv with ⟨_,rfl⟩ | ⟨ms,z,m2,e,h1,h2,h3,h4⟩
 ·have g:=zi (YK hk);rw[(hr.node _ g.2.1).top g.2.2];exact hk
 ·obtain ⟨rk,hed⟩:=hr.edge;have gz:=zi h2;have hp:=(hed _ gz.2.1 _ (qi h4).2 hk).1;rw[gz.2.2]at hp;have hp:(zg m f.xs).parent=z:=hp;rw[hp];exact h3
theorem xO (hok:okM f) (hi:FsI f) (hr:FsR f) {b p:Lz} {w:Bool} (h:(zG f b p w).2=0) (hh:zl (zG f b p w).1.ino f.xs=true) (hk:(zg (zG f b p w).1.ino f.xs).kind≠2):(zG f b p w).1.name≠[]:=fun hn=>by
 have z0:zl (0:Int) f.xs=false:=by
  cases hq:zl (0:Int) f.xs with
  | false=>rfl
  | true=>exact absurd rfl (VP hi hq)
 have:=uV (P:=fun s=>s.name = []->(zg s.ino f.xs).kind=2∨zl s.ino f.xs=false) (Q:=fun m=>(zg m f.xs).kind=2) (fun m q _=>.inl q) (qF hok).2.1.2.2.2.2.2.2.2.2 (fun m hm=>⟨hm,zks hok hi hr hm⟩) (fun m n hm hn=>by
  have hn:n = []:=hn;subst hn
  right
  show zl (qg [] (zg m f.xs).es) f.xs=false;unfold qg;cases hz:Jk zX.name [] (zg m f.xs).es with
  | none=>exact z0
  | some e =>
   have:=qi hz;have g:=zi (YK hm);have:=(UB ((hr.node _ g.2.1).nam e this.2)).1;exact absurd (qi hz).1 this) h hn
 rcases this with q | q
 ·exact hk q
 ·rw[hh]at q;cases q
end
section
open CA CB
open Go.RowKit
theorem Y9 (d:qh) (hd:d.diags.length<=80000) (k:Int) (o:Lz) (ops:List Lz) (u v:Lz) (hu:u.length<=3000) (hv:v.length<=3000) (w e:Int):xh Tryz.prog GD 55 [.sc (.int .i64 w),.sc (.int .i64 e),.ptr 0 0,.ptr 1 0,.ptr 2 0,.ptr 3 0] [zpq d,zd1 k o ops,[.str u],[.str v]] 0 (.tup []) [zpq (qJ d (j8 k w u v e)),zd1 k o ops,[.str u],[.str v]] 0:=by
 have h:=zfE d hd k w u v e hu hv;refine foB (fun _=>[]) Tryz.func55 ?_;dsimp only[Tryz.f55];push_cast;refine cl h ?_;push_cast;exact ⟨[],rfl,rfl,by push_cast [ze,zd,CLe,zh],by push_cast [ze,zd,CLe,zh]⟩
theorem zd3 (hok:okM f) (hi:FsI f) (hr:FsR f) {b o v:Lz} (q:Q9 f b o v=0):Fun Tryz.prog GD 61 [.agg (fsC f),.agg (Y8 (zG f b v false).1)] (.str (zC f (zG f b v false).1)) 0/\(zC f (zG f b v false).1).length<=990000:=by
 obtain ⟨w1,w2,w3⟩:=zhJ q;have gT:=M2 w1;have hn:(zG f b v false).1.name≠[]:=by
  cases hq:zl (zG f b v false).1.ino f.xs with
  | true=>exact xO hok hi hr w1 hq (w2 hq)
  | false=>exact (UB (w3 hq)).1
 have hm:may (zG f b v false).1.name=true:=by
  cases hq:zl (zG f b v false).1.ino f.xs with
  | true=>exact U5 hr (HE gT hi hq hn)
  | false=>exact w3 hq
 obtain ⟨g1,g2,_⟩:=gT.resolve_left hn;exact ⟨(ME f hok _ g1 g2 hm).g0,zaQ hok g1 g2 hm⟩
theorem zqq (hok:okM f) (hi:FsI f) (hr:FsR f) {b u:Lz} (q:(JO f b false u).2.2=0):Fun Tryz.prog GD 61 [.agg (fsC f),.agg (Y8 (JO f b false u).1)] (.str (zC f (JO f b false u).1)) 0/\(zC f (JO f b false u).1).length<=990000:=by
 obtain ⟨s1,s2,s3,s4⟩:=zaB q;rw[s1];have ha:=HE (M2 s2) hi s3 (xO hok hi hr s2 s3 s4);exact ⟨(ME f hok _ ha.has ha.kind (U5 hr ha)).g0,zaQ hok ha.has ha.kind (U5 hr ha)⟩
theorem Zs (k:Int) (b o:Lz) (ops:List Lz) {N:Nat} {d:qh} (h:GrD N d) (hN:N+3*ops.length+3<=2000) (hb:b.length<=1000) (hp:∀ x∈ops,x.length<=1000) (h1:0<ops.length):Fun Tryz.prog GD 24 [Hr d,.str b,.agg (zd1 k o ops)] (Hr (zju k b o ops d)) 0:=by
 have hll:(zL ops).length=ops.length:=We ..;have hS:=(h.s (by omega)).ws.fs;have hpl:=(Z9 d.w.fs h.b.wi.fs h.r.fs hS h.dat b (by omega) k o ops (by omega) hp).g0 (G':=GD);have e:zju k b o ops d=match jW d.w.fs b k o ops with | none=>qJ d (j8 k 10 (ops.getLastD []) [] 0) | some ps=>zbw k b o (ops.zip ps) d:=rfl
 cases hP:jW d.w.fs b k o ops with
 | none =>
  rw[hP]at hpl e;simp only[Al,Bp]at hpl;have hlg:=Un h1;have hla:(zL ops)[ops.length-1]?=some [.str (ops.getLastD [])]:=by rw[Ww,hlg];rfl
  have hlx:((ops.length:Int)-1).toNat=ops.length-1:=by omega
  have hl2:(ops.getLastD []).length<=1000:=hp _ (Wf hlg);have ht:=zfE d (by have:=h.b.diags;omega) k 10 (ops.getLastD []) [] 0 (by omega) (Wc _);rw[e];refine fof (fun i=>if i=4 then [false,false,false,false,false,false,false,false,false,false,true] else if i=11 then Gn 8 10 9 11 else []) Tryz.func24 ?_;dsimp only[Tryz.f24];push_cast [hll];refine cl hpl ?_;push_cast [hll,hla,hlx]
  repeat refine an ?_
  refine cl ht ?_;push_cast;exact dn (by push_cast [ze,zd,CLe,zh,qJ])
 | some ps =>
  rw[hP]at hpl e;simp only[Oi,AW]at hpl;obtain ⟨p1,p2⟩:=zch hP hp;have hpsl:(zL ps).length=ps.length:=We ..;have hz:(ops.zip ps).length=ps.length:=by rw[List.length_zip];omega
  have e:zju k b o ops d=zbw k b o (ops.zip ps) d:=e;rw[e];have hh:=(Np k o (.sl 1 (zL ops)) 115 rfl).g0 (G':=GD);have hone:∀ D u v,Uh k b o D u v=if (JO D.w.fs b (decide ((115:UInt8)∈o)) u).2.2≠0 then qJ D (j8 k (JO D.w.fs b (decide ((115:UInt8)∈o)) u).2.1 u v (JO D.w.fs b (decide ((115:UInt8)∈o)) u).2.2)
   else if Q9 D.w.fs b o v≠0 then qJ D (j8 k (if decide ((115:UInt8)∈o) then 8 else 7) u v (Q9 D.w.fs b o v))
   else if zl (zG D.w.fs b v false).1.ino D.w.fs.xs=true/\decide ((115:UInt8)∈o)=false/\(JO D.w.fs b (decide ((115:UInt8)∈o)) u).1.ino=(zG D.w.fs b v false).1.ino then qJ D (j8 k 9 u v 0)
   else zou k (decide ((115:UInt8)∈o)) D (JO D.w.fs b (decide ((115:UInt8)∈o)) u).1 (zG D.w.fs b v false).1 u v:=fun _ _ _=>rfl
  generalize hSo:decide ((115:UInt8)∈o)=S at hh hone;cases S
  all_goals
   refine fof (fun i=>if i=4 then [false,false,false,false,false,false,false,false,false,false,true] else if i=11 then Gn 8 10 9 11 else []) Tryz.func24 ?_;dsimp only[Tryz.f24];push_cast [hll];refine cl hpl ?_;push_cast [hpsl];refine cl hh ?_;push_cast [hpsl]
  ·refine loop (fun q:Nat×qh=>⟨[(1,.str b),(3,.ptr 0 0),(5,.ptr 1 0),(6,.ptr 2 0),(10,.sc (.bool false)),(11,.sc (.int .i64 7)),(52,.sl 1 (zL ps)),(53,.sc (.int .i64 (ps.length:Nat))),(54,.sc (.int .i64 q.1))],[zpq q.2,zd1 k o ops,Gr],0,0⟩) (fun q=>q.1<=ps.length/\q.2=zbw k b o ((ops.zip ps).take q.1) d/\GrD (N+3*q.1) q.2) (fun q=>ps.length-q.1) (0,d) ⟨Wc _,rfl,h⟩ ?_ ?_
   ·exact wk (h4:=by push_cast [ze,zd,CLe,zh,hpsl])
   rintro ⟨i,D⟩ ⟨i1,i2,i3⟩;dsimp only at i1 i2 i3;by_cases hi:i<ps.length
   case neg =>
    have hil:i=ps.length:=by omega
    have hi':=WR (show ¬(i:Int)<ps.length by omega);rw[hil,←hz,Oe]at i2;push_cast [hi'];rw[←i2];exact dn
   have hi':=eq_true (show (i:Int)<ps.length by omega);have hio:i<ops.length:=by omega
   have hgp:(zL ps)[i]?=some [.str ps[i]]:=by simp[zL,hi]
   have hgo:(zL ops)[i]?=some [.str ops[i]]:=by simp[zL,hio]
   have hlp:=p2 _ (Wv hi);have hlo:=hp _ (Wv hio);have hst:Uh k b o D ops[i] ps[i]=zbw k b o ((ops.zip ps).take (i+1)) d:=by
    have hzi:i<(ops.zip ps).length:=by omega
    rw[Ae hzi];unfold zbw;rw[BB];show Uh k b o D ops[i] ps[i]=Uh k b o (zbw k b o ((ops.zip ps).take i) d) (ops.zip ps)[i].1 (ops.zip ps)[i].2;rw[←i2,List.getElem_zip]
   have hG:=zhb i3 k b o ops[i] ps[i] hlo;have eo:=hone D ops[i] ps[i];generalize ops[i]=u at *;generalize ps[i]=v at *;generalize hOne:Uh k b o D u v=D2 at *;have hwf:=i3.b.wi.fs;have hrf:=i3.r.fs;have hok:=i3.ok (by omega);have hds:=i3.s (by omega);have hS':=hds.ws.fs;have hdl:D.diags.length<=80000:=by have:=i3.b.diags;omega
   have htl:=Y9 D hdl k o ops u v (by omega) (by omega);have hsk:=(Qi D.w.fs hwf hrf hS' i3.dat b v false (by omega) (by omega)).g0 (G':=GD);have hgt:=jk (G:=GD) D.w.fs (zG D.w.fs b v false).1.ino (by have:=hS'.len;omega) hwf.rises;have htk:=(xw k o ops (zg (zG D.w.fs b v false).1.ino D.w.fs.xs)).g0 (G':=GD);have hfr:=(x8 (zG D.w.fs b v false).1 v (by omega) (Gb hS' b v false (by omega))).g0 (G':=GD);have eW:Q9 D.w.fs b o v=if (zG D.w.fs b v false).2≠0 then (zG D.w.fs b v false).2 else if zl (zG D.w.fs b v false).1.ino D.w.fs.xs then Gi o (zg (zG D.w.fs b v false).1.ino D.w.fs.xs) else HO (zG D.w.fs b v false).1 v:=rfl;have hpb:=zd3 (b:=b) (o:=o) (v:=v) hok hwf hrf;have hst1:=zdp i3 (zG D.w.fs b v false).1;have hfin:∀ D3,D2=D3->D3=zbw k b o ((ops.zip ps).take (i+1)) d/\GrD (N+3*(i+1)) D3:=fun D3 q=>by
    rw[←q];exact ⟨hst,by rw[show N+3*(i+1)=N+3*i+3 by omega];exact hG⟩
   clear hst hG hOne;have hsrc:=(H6 D.w.fs hwf hrf hS' i3.dat b (by omega) false u (by omega)).g0 (G':=GD);have hso:=zaB (f:=D.w.fs) (b:=b) (u:=u);have hpa:=zqq (b:=b) (u:=u) hok hwf hrf;have eo:D2=if (JO D.w.fs b false u).2.2≠0 then qJ D (j8 k (JO D.w.fs b false u).2.1 u v (JO D.w.fs b false u).2.2) else if Q9 D.w.fs b o v≠0 then qJ D (j8 k 7 u v (Q9 D.w.fs b o v)) else if zl (zG D.w.fs b v false).1.ino D.w.fs.xs=true/\(JO D.w.fs b false u).1.ino=(zG D.w.fs b v false).1.ino then qJ D (j8 k 9 u v 0) else zou k false D (JO D.w.fs b false u).1 (zG D.w.fs b v false).1 u v:=by
    rw[eo];simp only[WO,W4,true_and]
   generalize JO D.w.fs b false u=s at *;obtain ⟨sa,fw,sw⟩:=s;dsimp only at hsrc hpa eo;generalize Q9 D.w.fs b o v=wy at *;generalize hTT:zG D.w.fs b v false=T at *;generalize hYY:zg T.1.ino D.w.fs.xs=Y at *;push_cast [hi',hgp,hgo,hll,hpsl,O0]
   repeat refine an ?_
   push_cast [hi',hgp,hgo,hll,hpsl,O0]
   repeat refine an ?_
   rcases Ob (sw=0) with c1 | c1
   case inr =>
    rw[if_pos (O2 c1)]at eo;refine cl hsrc ?_;push_cast [c1];refine Xc [0,1,5,3] [] (htl fw sw) rfl (by decide) (by decide) (by simp) (by push_cast) (by push_cast) ?_;push_cast
    repeat refine an ?_
    exact ⟨(i+1,_),⟨by dsimp only;omega,hfin _ eo⟩,by dsimp only;omega,wk (h5:=by push_cast [ze,zd,CLe,zh,qJ])⟩
   rw[if_neg (fun q=>q (O9 c1))]at eo;rcases Ob (T.2=0) with c2 | c2
   case inr =>
    rw[if_pos (O2 c2)]at eW;subst eW;rw[if_pos (O2 c2)]at eo;refine cl hsrc ?_;push_cast [c1];refine cl hsk ?_;push_cast [c2];refine cl hgt ?_;push_cast [c2];refine Xc [0,1,5,3] [] (htl 7 T.2) rfl (by decide) (by decide) (by simp) (by push_cast) (by push_cast) ?_;push_cast
    repeat refine an ?_
    exact ⟨(i+1,_),⟨by dsimp only;omega,hfin _ eo⟩,by dsimp only;omega,wk (h5:=by push_cast [ze,zd,CLe,zh,qJ])⟩
   rw[if_neg (fun q=>q (O9 c2))]at eW;rcases Ob (wy=0) with c3 | c3
   case inr =>
    rw[if_pos (O2 c3)]at eo;cases hT:zl T.1.ino D.w.fs.xs with
    | true =>
     rw[hT]at hgt eW;simp only[WO,W4,if_true]at eW;rw[←eW]at htk;refine cl hsrc ?_;push_cast [c1];refine cl hsk ?_;push_cast [c2];refine cl hgt ?_;push_cast [c2];refine cl htk ?_;push_cast [c3];refine Xc [0,1,5,3] [] (htl 7 wy) rfl (by decide) (by decide) (by simp) (by push_cast) (by push_cast) ?_;push_cast
     repeat refine an ?_
     exact ⟨(i+1,_),⟨by dsimp only;omega,hfin _ eo⟩,by dsimp only;omega,wk (h5:=by push_cast [ze,zd,CLe,zh,qJ])⟩
    | false =>
     rw[hT]at hgt eW;simp only[WO,W4,if_true]at eW;rw[←eW]at hfr;refine cl hsrc ?_;push_cast [c1];refine cl hsk ?_;push_cast [c2];refine cl hgt ?_;push_cast [c2];refine cl hfr ?_;push_cast [c3];refine Xc [0,1,5,3] [] (htl 7 wy) rfl (by decide) (by decide) (by simp) (by push_cast) (by push_cast) ?_;push_cast
     repeat refine an ?_
     exact ⟨(i+1,_),⟨by dsimp only;omega,hfin _ eo⟩,by dsimp only;omega,wk (h5:=by push_cast [ze,zd,CLe,zh,qJ])⟩
   rw[if_neg (fun q=>q (O9 c3))]at eo;have hpb:=hpb (O9 c3);have hpl1:=hpb.2;cases hT:zl T.1.ino D.w.fs.xs with
   | true =>
    rw[hT]at hgt eW;simp only[WO,W4,if_true]at eW;rw[←eW]at htk;have hpa:=hpa (O9 c1);rcases Ob (sa.ino=T.1.ino) with c4 | c4
    case inl =>
     rw[if_pos ⟨hT,O9 c4⟩]at eo;refine cl hsrc ?_;push_cast [c1];refine cl hsk ?_;push_cast [c2];refine cl hgt ?_;push_cast [c2];refine cl htk ?_;push_cast [c3];refine cl (hpb.1) ?_;push_cast [c4];refine Xc [0,1,5,3] [] (htl 9 0) rfl (by decide) (by decide) (by simp) (by push_cast) (by push_cast) ?_;push_cast
     repeat refine an ?_
     exact ⟨(i+1,_),⟨by dsimp only;omega,hfin _ eo⟩,by dsimp only;omega,wk (h5:=by push_cast [ze,zd,CLe,zh,qJ])⟩
    rw[if_neg (fun q=>O2 c4 q.2)]at eo;have e1:Zg D T.1=(JU D (zaU (zC D.w.fs T.1))).1:=by unfold Zg;rw[hT];rfl
    have hsh:=zk4 D hds (zC D.w.fs T.1) (by omega);rw[e1]at hst1;have e2:D2=if (JU (Zg D T.1) (XS (zC D.w.fs sa) (zC D.w.fs T.1))).2≠0 then qJ (JU (Zg D T.1) (XS (zC D.w.fs sa) (zC D.w.fs T.1))).1 (j8 k 7 u v (JU (Zg D T.1) (XS (zC D.w.fs sa) (zC D.w.fs T.1))).2) else (JU (Zg D T.1) (XS (zC D.w.fs sa) (zC D.w.fs T.1))).1:=eo;rw[e1]at e2;clear eo e1;generalize (JU D (zaU (zC D.w.fs T.1))).1=D1 at *;have hd1:=hst1.s (by omega);have hgr:GrD (N+3*i+1+1) (JU D1 (XS (zC D.w.fs sa) (zC D.w.fs T.1))).1:=hst1.add (by exact Wc _) (by show ¬(5:Int)=3;decide);have hop:=u7 D1 hd1 5 (by decide) (by decide) (zC D.w.fs sa) (zC D.w.fs T.1) [] (zfc D1.w hd1.wi hd1.ws (zC D.w.fs sa) (zC D.w.fs T.1) (by have:=hpa.2;omega) (by omega));rw[show (XS (zC D.w.fs sa) (zC D.w.fs T.1))=⟨5,0,zC D.w.fs sa,zC D.w.fs T.1,[]⟩ from rfl]at e2 hgr;generalize hAA:JU D1 ⟨5,0,zC D.w.fs sa,zC D.w.fs T.1,[]⟩=A at *;have htl2:=Y9 A.1 (by have:=hgr.b.diags;omega) k o ops u v (by omega) (by omega);unfold opL at hop hsh;simp only[zaU]at hsh;rcases Ob (A.2=0) with c5 | c5
    ·rw[if_neg (fun q=>q (O9 c5))]at e2;refine cl hsrc ?_;push_cast [c1];refine cl hsk ?_;push_cast [c2];refine cl hgt ?_;push_cast [c2];refine cl htk ?_;push_cast [c3];refine cl (hpb.1) ?_;push_cast [c4];refine cl hsh ?_;push_cast;refine cl (hpa.1) ?_;push_cast;refine cl hop ?_;push_cast [c5]
     repeat refine an ?_
     exact ⟨(i+1,_),⟨by dsimp only;omega,hfin _ e2⟩,by dsimp only;omega,wk (h5:=by push_cast [ze,zd,CLe,zh,qJ])⟩
    ·rw[if_pos (O2 c5)]at e2;refine cl hsrc ?_;push_cast [c1];refine cl hsk ?_;push_cast [c2];refine cl hgt ?_;push_cast [c2];refine cl htk ?_;push_cast [c3];refine cl (hpb.1) ?_;push_cast [c4];refine cl hsh ?_;push_cast;refine cl (hpa.1) ?_;push_cast;refine cl hop ?_;push_cast [c5];refine Xc [0,1,5,3] [] (htl2 7 A.2) rfl (by decide) (by decide) (by simp) (by push_cast) (by push_cast) ?_;push_cast
     repeat refine an ?_
     exact ⟨(i+1,_),⟨by dsimp only;omega,hfin _ e2⟩,by dsimp only;omega,wk (h5:=by push_cast [ze,zd,CLe,zh,qJ])⟩
   | false =>
    rw[hT]at hgt eW;simp only[WO,W4,if_true]at eW;rw[←eW]at hfr;have hpa:=hpa (O9 c1);rw[if_neg (fun q=>by rw[hT]at q;cases q.1)]at eo;have e1:Zg D T.1=D:=by unfold Zg;rw[hT];rfl
    rw[e1]at hst1;have e2:D2=if (JU (Zg D T.1) (XS (zC D.w.fs sa) (zC D.w.fs T.1))).2≠0 then qJ (JU (Zg D T.1) (XS (zC D.w.fs sa) (zC D.w.fs T.1))).1 (j8 k 7 u v (JU (Zg D T.1) (XS (zC D.w.fs sa) (zC D.w.fs T.1))).2) else (JU (Zg D T.1) (XS (zC D.w.fs sa) (zC D.w.fs T.1))).1:=eo;rw[e1]at e2;clear eo e1;have hd1:=hst1.s (by omega);have hgr:GrD (N+3*i+1+1) (JU D (XS (zC D.w.fs sa) (zC D.w.fs T.1))).1:=hst1.add (by exact Wc _) (by show ¬(5:Int)=3;decide);have hop:=u7 D hd1 5 (by decide) (by decide) (zC D.w.fs sa) (zC D.w.fs T.1) [] (zfc D.w hd1.wi hd1.ws (zC D.w.fs sa) (zC D.w.fs T.1) (by have:=hpa.2;omega) (by omega));rw[show (XS (zC D.w.fs sa) (zC D.w.fs T.1))=⟨5,0,zC D.w.fs sa,zC D.w.fs T.1,[]⟩ from rfl]at e2 hgr;generalize hAA:JU D ⟨5,0,zC D.w.fs sa,zC D.w.fs T.1,[]⟩=A at *;have htl2:=Y9 A.1 (by have:=hgr.b.diags;omega) k o ops u v (by omega) (by omega);unfold opL at hop;rcases Ob (A.2=0) with c5 | c5
    ·rw[if_neg (fun q=>q (O9 c5))]at e2;refine cl hsrc ?_;push_cast [c1];refine cl hsk ?_;push_cast [c2];refine cl hgt ?_;push_cast [c2];refine cl hfr ?_;push_cast [c3];refine cl (hpb.1) ?_;push_cast;refine cl (hpa.1) ?_;push_cast;refine cl hop ?_;push_cast [c5]
     repeat refine an ?_
     exact ⟨(i+1,_),⟨by dsimp only;omega,hfin _ e2⟩,by dsimp only;omega,wk (h5:=by push_cast [ze,zd,CLe,zh,qJ])⟩
    ·rw[if_pos (O2 c5)]at e2;refine cl hsrc ?_;push_cast [c1];refine cl hsk ?_;push_cast [c2];refine cl hgt ?_;push_cast [c2];refine cl hfr ?_;push_cast [c3];refine cl (hpb.1) ?_;push_cast;refine cl (hpa.1) ?_;push_cast;refine cl hop ?_;push_cast [c5];refine Xc [0,1,5,3] [] (htl2 7 A.2) rfl (by decide) (by decide) (by simp) (by push_cast) (by push_cast) ?_;push_cast
     repeat refine an ?_
     exact ⟨(i+1,_),⟨by dsimp only;omega,hfin _ e2⟩,by dsimp only;omega,wk (h5:=by push_cast [ze,zd,CLe,zh,qJ])⟩
  ·refine loop (fun q:Nat×qh=>⟨[(1,.str b),(3,.ptr 0 0),(5,.ptr 1 0),(6,.ptr 2 0),(10,.sc (.bool true)),(11,.sc (.int .i64 8)),(52,.sl 1 (zL ps)),(53,.sc (.int .i64 (ps.length:Nat))),(54,.sc (.int .i64 q.1))],[zpq q.2,zd1 k o ops,Gr],0,0⟩) (fun q=>q.1<=ps.length/\q.2=zbw k b o ((ops.zip ps).take q.1) d/\GrD (N+3*q.1) q.2) (fun q=>ps.length-q.1) (0,d) ⟨Wc _,rfl,h⟩ ?_ ?_
   ·exact wk (h4:=by push_cast [ze,zd,CLe,zh,hpsl])
   rintro ⟨i,D⟩ ⟨i1,i2,i3⟩;dsimp only at i1 i2 i3;by_cases hi:i<ps.length
   case neg =>
    have hil:i=ps.length:=by omega
    have hi':=WR (show ¬(i:Int)<ps.length by omega);rw[hil,←hz,Oe]at i2;push_cast [hi'];rw[←i2];exact dn
   have hi':=eq_true (show (i:Int)<ps.length by omega);have hio:i<ops.length:=by omega
   have hgp:(zL ps)[i]?=some [.str ps[i]]:=by simp[zL,hi]
   have hgo:(zL ops)[i]?=some [.str ops[i]]:=by simp[zL,hio]
   have hlp:=p2 _ (Wv hi);have hlo:=hp _ (Wv hio);have hst:Uh k b o D ops[i] ps[i]=zbw k b o ((ops.zip ps).take (i+1)) d:=by
    have hzi:i<(ops.zip ps).length:=by omega
    rw[Ae hzi];unfold zbw;rw[BB];show Uh k b o D ops[i] ps[i]=Uh k b o (zbw k b o ((ops.zip ps).take i) d) (ops.zip ps)[i].1 (ops.zip ps)[i].2;rw[←i2,List.getElem_zip]
   have hG:=zhb i3 k b o ops[i] ps[i] hlo;have eo:=hone D ops[i] ps[i];generalize ops[i]=u at *;generalize ps[i]=v at *;generalize hOne:Uh k b o D u v=D2 at *;have hwf:=i3.b.wi.fs;have hrf:=i3.r.fs;have hok:=i3.ok (by omega);have hds:=i3.s (by omega);have hS':=hds.ws.fs;have hdl:D.diags.length<=80000:=by have:=i3.b.diags;omega
   have htl:=Y9 D hdl k o ops u v (by omega) (by omega);have hsk:=(Qi D.w.fs hwf hrf hS' i3.dat b v false (by omega) (by omega)).g0 (G':=GD);have hgt:=jk (G:=GD) D.w.fs (zG D.w.fs b v false).1.ino (by have:=hS'.len;omega) hwf.rises;have htk:=(xw k o ops (zg (zG D.w.fs b v false).1.ino D.w.fs.xs)).g0 (G':=GD);have hfr:=(x8 (zG D.w.fs b v false).1 v (by omega) (Gb hS' b v false (by omega))).g0 (G':=GD);have eW:Q9 D.w.fs b o v=if (zG D.w.fs b v false).2≠0 then (zG D.w.fs b v false).2 else if zl (zG D.w.fs b v false).1.ino D.w.fs.xs then Gi o (zg (zG D.w.fs b v false).1.ino D.w.fs.xs) else HO (zG D.w.fs b v false).1 v:=rfl;have hpb:=zd3 (b:=b) (o:=o) (v:=v) hok hwf hrf;have hst1:=zdp i3 (zG D.w.fs b v false).1;have hfin:∀ D3,D2=D3->D3=zbw k b o ((ops.zip ps).take (i+1)) d/\GrD (N+3*(i+1)) D3:=fun D3 q=>by
    rw[←q];exact ⟨hst,by rw[show N+3*(i+1)=N+3*i+3 by omega];exact hG⟩
   clear hst hG hOne;have hsrc:Fun Tryz.prog GD 56 [.agg (fsC D.w.fs),.str b,.sc (.bool true),.str u] (.tup [.agg (Y8 jh),.sc (.int .i64 8),.sc (.int .i64 (Vm u))]) 0:=(H6 D.w.fs hwf hrf hS' i3.dat b (by omega) true u (by omega)).g0;have eo:D2=if Vm u≠0 then qJ D (j8 k 8 u v (Vm u)) else if Q9 D.w.fs b o v≠0 then qJ D (j8 k 8 u v (Q9 D.w.fs b o v)) else zou k true D jh (zG D.w.fs b v false).1 u v:=by
    rw[eo];show (if Vm u≠0 then _ else _)=_;simp only[if_true,Bool.true_eq_false,Ay,and_false,W4]
    rfl
   generalize Vm u=sw at *;obtain ⟨sa,hsa⟩:∃ s,s=jh:=⟨_,rfl⟩;rw[←hsa]at eo hsrc;generalize Q9 D.w.fs b o v=wy at *;generalize hTT:zG D.w.fs b v false=T at *;generalize hYY:zg T.1.ino D.w.fs.xs=Y at *;push_cast [hi',hgp,hgo,hll,hpsl,O0]
   repeat refine an ?_
   push_cast [hi',hgp,hgo,hll,hpsl,O0]
   repeat refine an ?_
   rcases Ob (sw=0) with c1 | c1
   case inr =>
    rw[if_pos (O2 c1)]at eo;refine cl hsrc ?_;push_cast [c1];refine Xc [0,1,5,3] [] (htl 8 sw) rfl (by decide) (by decide) (by simp) (by push_cast) (by push_cast) ?_;push_cast
    repeat refine an ?_
    exact ⟨(i+1,_),⟨by dsimp only;omega,hfin _ eo⟩,by dsimp only;omega,wk (h5:=by push_cast [ze,zd,CLe,zh,qJ])⟩
   rw[if_neg (fun q=>q (O9 c1))]at eo;rcases Ob (T.2=0) with c2 | c2
   case inr =>
    rw[if_pos (O2 c2)]at eW;subst eW;rw[if_pos (O2 c2)]at eo;refine cl hsrc ?_;push_cast [c1];refine cl hsk ?_;push_cast [c2];refine cl hgt ?_;push_cast [c2];refine Xc [0,1,5,3] [] (htl 8 T.2) rfl (by decide) (by decide) (by simp) (by push_cast) (by push_cast) ?_;push_cast
    repeat refine an ?_
    exact ⟨(i+1,_),⟨by dsimp only;omega,hfin _ eo⟩,by dsimp only;omega,wk (h5:=by push_cast [ze,zd,CLe,zh,qJ])⟩
   rw[if_neg (fun q=>q (O9 c2))]at eW;rcases Ob (wy=0) with c3 | c3
   case inr =>
    rw[if_pos (O2 c3)]at eo;cases hT:zl T.1.ino D.w.fs.xs with
    | true =>
     rw[hT]at hgt eW;simp only[WO,W4,if_true]at eW;rw[←eW]at htk;refine cl hsrc ?_;push_cast [c1];refine cl hsk ?_;push_cast [c2];refine cl hgt ?_;push_cast [c2];refine cl htk ?_;push_cast [c3];refine Xc [0,1,5,3] [] (htl 8 wy) rfl (by decide) (by decide) (by simp) (by push_cast) (by push_cast) ?_;push_cast
     repeat refine an ?_
     exact ⟨(i+1,_),⟨by dsimp only;omega,hfin _ eo⟩,by dsimp only;omega,wk (h5:=by push_cast [ze,zd,CLe,zh,qJ])⟩
    | false =>
     rw[hT]at hgt eW;simp only[WO,W4,if_true]at eW;rw[←eW]at hfr;refine cl hsrc ?_;push_cast [c1];refine cl hsk ?_;push_cast [c2];refine cl hgt ?_;push_cast [c2];refine cl hfr ?_;push_cast [c3];refine Xc [0,1,5,3] [] (htl 8 wy) rfl (by decide) (by decide) (by simp) (by push_cast) (by push_cast) ?_;push_cast
     repeat refine an ?_
     exact ⟨(i+1,_),⟨by dsimp only;omega,hfin _ eo⟩,by dsimp only;omega,wk (h5:=by push_cast [ze,zd,CLe,zh,qJ])⟩
   rw[if_neg (fun q=>q (O9 c3))]at eo;have hpb:=hpb (O9 c3);have hpl1:=hpb.2;cases hT:zl T.1.ino D.w.fs.xs with
   | true =>
    rw[hT]at hgt eW;simp only[WO,W4,if_true]at eW;rw[←eW]at htk;have e1:Zg D T.1=(JU D (zaU (zC D.w.fs T.1))).1:=by unfold Zg;rw[hT];rfl
    have hsh:=zk4 D hds (zC D.w.fs T.1) (by omega);rw[e1]at hst1;have e2:D2=if (JU (Zg D T.1) (X8 (zC D.w.fs T.1) u)).2≠0 then qJ (JU (Zg D T.1) (X8 (zC D.w.fs T.1) u)).1 (j8 k 8 u v (JU (Zg D T.1) (X8 (zC D.w.fs T.1) u)).2) else (JU (Zg D T.1) (X8 (zC D.w.fs T.1) u)).1:=eo;rw[e1]at e2;clear eo e1;generalize (JU D (zaU (zC D.w.fs T.1))).1=D1 at *;have hd1:=hst1.s (by omega);have hgr:GrD (N+3*i+1+1) (JU D1 (X8 (zC D.w.fs T.1) u)).1:=hst1.add (by show u.length<=1000;omega) (by show ¬(4:Int)=3;decide);have hop:=u7 D1 hd1 4 (by decide) (by decide) (zC D.w.fs T.1) [] u (zfo D1.w hd1.wi hd1.ws (zC D.w.fs T.1) u (by omega) (by omega));rw[show (X8 (zC D.w.fs T.1) u)=⟨4,0,zC D.w.fs T.1,[],u⟩ from rfl]at e2 hgr;generalize hAA:JU D1 ⟨4,0,zC D.w.fs T.1,[],u⟩=A at *;have htl2:=Y9 A.1 (by have:=hgr.b.diags;omega) k o ops u v (by omega) (by omega);unfold opL at hop hsh;simp only[zaU]at hsh;rcases Ob (A.2=0) with c5 | c5
    ·rw[if_neg (fun q=>q (O9 c5))]at e2;refine cl hsrc ?_;push_cast [c1];refine cl hsk ?_;push_cast [c2];refine cl hgt ?_;push_cast [c2];refine cl htk ?_;push_cast [c3];refine cl (hpb.1) ?_;push_cast;refine cl hsh ?_;push_cast;refine cl hop ?_;push_cast [c5]
     repeat refine an ?_
     exact ⟨(i+1,_),⟨by dsimp only;omega,hfin _ e2⟩,by dsimp only;omega,wk (h5:=by push_cast [ze,zd,CLe,zh,qJ])⟩
    ·rw[if_pos (O2 c5)]at e2;refine cl hsrc ?_;push_cast [c1];refine cl hsk ?_;push_cast [c2];refine cl hgt ?_;push_cast [c2];refine cl htk ?_;push_cast [c3];refine cl (hpb.1) ?_;push_cast;refine cl hsh ?_;push_cast;refine cl hop ?_;push_cast [c5];refine Xc [0,1,5,3] [] (htl2 8 A.2) rfl (by decide) (by decide) (by simp) (by push_cast) (by push_cast) ?_;push_cast
     repeat refine an ?_
     exact ⟨(i+1,_),⟨by dsimp only;omega,hfin _ e2⟩,by dsimp only;omega,wk (h5:=by push_cast [ze,zd,CLe,zh,qJ])⟩
   | false =>
    rw[hT]at hgt eW;simp only[WO,W4,if_true]at eW;rw[←eW]at hfr;have e1:Zg D T.1=D:=by unfold Zg;rw[hT];rfl
    rw[e1]at hst1;have e2:D2=if (JU (Zg D T.1) (X8 (zC D.w.fs T.1) u)).2≠0 then qJ (JU (Zg D T.1) (X8 (zC D.w.fs T.1) u)).1 (j8 k 8 u v (JU (Zg D T.1) (X8 (zC D.w.fs T.1) u)).2) else (JU (Zg D T.1) (X8 (zC D.w.fs T.1) u)).1:=eo;rw[e1]at e2;clear eo e1;have hd1:=hst1.s (by omega);have hgr:GrD (N+3*i+1+1) (JU D (X8 (zC D.w.fs T.1) u)).1:=hst1.add (by show u.length<=1000;omega) (by show ¬(4:Int)=3;decide);have hop:=u7 D hd1 4 (by decide) (by decide) (zC D.w.fs T.1) [] u (zfo D.w hd1.wi hd1.ws (zC D.w.fs T.1) u (by omega) (by omega));rw[show (X8 (zC D.w.fs T.1) u)=⟨4,0,zC D.w.fs T.1,[],u⟩ from rfl]at e2 hgr;generalize hAA:JU D ⟨4,0,zC D.w.fs T.1,[],u⟩=A at *;have htl2:=Y9 A.1 (by have:=hgr.b.diags;omega) k o ops u v (by omega) (by omega);unfold opL at hop;rcases Ob (A.2=0) with c5 | c5
    ·rw[if_neg (fun q=>q (O9 c5))]at e2;refine cl hsrc ?_;push_cast [c1];refine cl hsk ?_;push_cast [c2];refine cl hgt ?_;push_cast [c2];refine cl hfr ?_;push_cast [c3];refine cl (hpb.1) ?_;push_cast;refine cl hop ?_;push_cast [c5]
     repeat refine an ?_
     exact ⟨(i+1,_),⟨by dsimp only;omega,hfin _ e2⟩,by dsimp only;omega,wk (h5:=by push_cast [ze,zd,CLe,zh,qJ])⟩
    ·rw[if_pos (O2 c5)]at e2;refine cl hsrc ?_;push_cast [c1];refine cl hsk ?_;push_cast [c2];refine cl hgt ?_;push_cast [c2];refine cl hfr ?_;push_cast [c3];refine cl (hpb.1) ?_;push_cast;refine cl hop ?_;push_cast [c5];refine Xc [0,1,5,3] [] (htl2 8 A.2) rfl (by decide) (by decide) (by simp) (by push_cast) (by push_cast) ?_;push_cast
     repeat refine an ?_
     exact ⟨(i+1,_),⟨by dsimp only;omega,hfin _ e2⟩,by dsimp only;omega,wk (h5:=by push_cast [ze,zd,CLe,zh,qJ])⟩
end
section
open CA CB
open Go.RowKit
end
section
open CA CB
open Go.RowKit
end
section
open CA CB
open Go.RowKit
def Yv (w:qC) (b:Lz) (l:List Lz):Prop:=(∀ x∈l.take 20,x.length<=1000)/\okW w/\w.fs.next<549755813888/\Jg w.kept<536870912/\ZF w.fs b []=true/\Yi b=true/\l.length<=6
instance (w:qC) (b:Lz) (l:List Lz):Decidable (Yv w b l):=by unfold Yv;infer_instance
theorem zbZ (w:qC) (b:Lz) (l:List Lz) (hb:b.length<=2000000):Fun Tryz.prog G0 9 [Xh w,.str b,.sl 1 (zL l)] (qQ (decide (Yv w b l))) 0:=by
 have hll:(zL l).length=l.length:=We ..;have hpl:=xg b hb;unfold XD at hpl;have hok:=zdN w;have hsh:=zcK w.fs b [];refine fon Tryz.func9 ?_;dsimp only[Tryz.f9];push_cast;refine cl hpl ?_;push_cast;refine loop (fun i:Nat=>⟨[(1,.str b),(2,.sl 1 (zL l)),(3,.ptr 0 0),(8,.sc (.bool (Yi b))),(9,.sc (.int .i64 i))],[HL w],0,0⟩) (fun i=>i<=l.length/\i<=20/\∀ x∈l.take i,x.length<=1000) (fun i=>l.length-i) 0 ⟨Wc _,Wc _,fun x hx=>by rw[OD]at hx;cases hx⟩ ?_ ?_
 ·exact wk
 rintro i ⟨h1,h2,h3⟩;by_cases hi:i<l.length
 ·have hi':=eq_true (show (i:Int)<l.length by omega);by_cases h20:i<20
  ·have h20':=eq_true (show (i:Int)<20 by omega);have hgi:(zL l)[i]?=some [.str l[i]]:=by simp[zL,hi]
   have ht:l.take (i+1)=l.take i++[l[i]]:=Ae hi;by_cases hx:l[i].length<=1000
   ·have hx':=WR (show ¬(1000:Int)<l[i].length by omega);push_cast [hi',h20',hgi,hll,hx',O0]
    repeat refine an ?_
    exact ⟨i+1,⟨by omega,by omega,fun x hm=>by
     rw[ht]at hm;rcases WD.1 hm with hm | hm
     ·exact h3 x hm
     ·rw[W8.1 hm];exact hx⟩,by omega,wk⟩
   ·have hx':=eq_true (show (1000:Int)<l[i].length by omega);have hn:¬Yv w b l:=fun h=>hx (h.1 _ (AC.2 ⟨i,by omega,rfl⟩));push_cast [hi',h20',hgi,hll,hx',O0]
    repeat refine an ?_
    exact dn (by push_cast [ze,zd,CLe,zh,hn])
  ·have h20':=WR (show ¬(i:Int)<20 by omega);have hx:∀ x∈l.take 20,x.length<=1000:=by rw[show i=20 by omega]at h3;exact h3
   by_cases k1:okW w
   case neg =>
    have hn:¬Yv w b l:=fun h=>k1 h.2.1;rw[Wm k1]at hok;push_cast [hi',h20',hll];refine cl hok ?_;push_cast;exact dn (by push_cast [ze,zd,CLe,zh,hn])
   rw[Wn k1]at hok;have hs:=k1.2.2.2.2.1;have hla:=kG (G:=G0) w (by have:=(zcV k1).klen;omega) hs.1 hs.2;by_cases k2:w.fs.next<549755813888
   case neg =>
    have hn:¬Yv w b l:=fun h=>k2 h.2.2.1;have k2':=WR k2;push_cast [hi',h20',hll];refine cl hok ?_;push_cast [k2'];exact dn (by push_cast [ze,zd,CLe,zh,hn])
   have k2':=eq_true k2;by_cases k3:Jg w.kept<536870912
   case neg =>
    have hn:¬Yv w b l:=fun h=>k3 h.2.2.2.1;have k3':=WR k3;push_cast [hi',h20',hll];refine cl hok ?_;push_cast [k2'];refine cl hla ?_;push_cast [k3'];exact dn (by push_cast [ze,zd,CLe,zh,hn])
   have k3':=eq_true k3;cases k4:ZF w.fs b []
   case false =>
    have hn:¬Yv w b l:=fun h=>by rw[h.2.2.2.2.1]at k4;cases k4
    rw[k4]at hsh;push_cast [hi',h20',hll];refine cl hok ?_;push_cast [k2'];refine cl hla ?_;push_cast [k3'];refine cl hsh ?_;push_cast;exact dn (by push_cast [ze,zd,CLe,zh,hn])
   rw[k4]at hsh;cases k5:Yi b
   case false =>
    have hn:¬Yv w b l:=fun h=>by rw[h.2.2.2.2.2.1]at k5;cases k5
    push_cast [hi',h20',hll];refine cl hok ?_;push_cast [k2'];refine cl hla ?_;push_cast [k3'];refine cl hsh ?_;push_cast;exact dn (by push_cast [ze,zd,CLe,zh,hn])
   by_cases k6:l.length<=6
   ·have hn:Yv w b l:=⟨hx,k1,k2,k3,k4,k5,k6⟩;have k6':=eq_true (show (l.length:Int)<=6 by omega);push_cast [hi',h20',hll];refine cl hok ?_;push_cast [k2'];refine cl hla ?_;push_cast [k3'];refine cl hsh ?_;push_cast [hll,k6'];exact dn (by push_cast [ze,zd,CLe,zh,hn])
   ·have hn:¬Yv w b l:=fun h=>k6 h.2.2.2.2.2.2;have k6':=WR (show ¬(l.length:Int)<=6 by omega);push_cast [hi',h20',hll];refine cl hok ?_;push_cast [k2'];refine cl hla ?_;push_cast [k3'];refine cl hsh ?_;push_cast [hll,k6'];exact dn (by push_cast [ze,zd,CLe,zh,hn])
 ·have hi':=WR (show ¬(i:Int)<l.length by omega);have hx:∀ x∈l.take 20,x.length<=1000:=by
   rw[show i=l.length by omega,Oe]at h3;exact fun x hm=>h3 x (Wu hm)
  by_cases k1:okW w
  case neg =>
   have hn:¬Yv w b l:=fun h=>k1 h.2.1;rw[Wm k1]at hok;push_cast [hi',hll];refine cl hok ?_;push_cast;exact dn (by push_cast [ze,zd,CLe,zh,hn])
  rw[Wn k1]at hok;have hs:=k1.2.2.2.2.1;have hla:=kG (G:=G0) w (by have:=(zcV k1).klen;omega) hs.1 hs.2;by_cases k2:w.fs.next<549755813888
  case neg =>
   have hn:¬Yv w b l:=fun h=>k2 h.2.2.1;have k2':=WR k2;push_cast [hi',hll];refine cl hok ?_;push_cast [k2'];exact dn (by push_cast [ze,zd,CLe,zh,hn])
  have k2':=eq_true k2;by_cases k3:Jg w.kept<536870912
  case neg =>
   have hn:¬Yv w b l:=fun h=>k3 h.2.2.2.1;have k3':=WR k3;push_cast [hi',hll];refine cl hok ?_;push_cast [k2'];refine cl hla ?_;push_cast [k3'];exact dn (by push_cast [ze,zd,CLe,zh,hn])
  have k3':=eq_true k3;cases k4:ZF w.fs b []
  case false =>
   have hn:¬Yv w b l:=fun h=>by rw[h.2.2.2.2.1]at k4;cases k4
   rw[k4]at hsh;push_cast [hi',hll];refine cl hok ?_;push_cast [k2'];refine cl hla ?_;push_cast [k3'];refine cl hsh ?_;push_cast;exact dn (by push_cast [ze,zd,CLe,zh,hn])
  rw[k4]at hsh;cases k5:Yi b
  case false =>
   have hn:¬Yv w b l:=fun h=>by rw[h.2.2.2.2.2.1]at k5;cases k5
   push_cast [hi',hll];refine cl hok ?_;push_cast [k2'];refine cl hla ?_;push_cast [k3'];refine cl hsh ?_;push_cast;exact dn (by push_cast [ze,zd,CLe,zh,hn])
  by_cases k6:l.length<=6
  ·have hn:Yv w b l:=⟨hx,k1,k2,k3,k4,k5,k6⟩;have k6':=eq_true (show (l.length:Int)<=6 by omega);push_cast [hi',hll];refine cl hok ?_;push_cast [k2'];refine cl hla ?_;push_cast [k3'];refine cl hsh ?_;push_cast [hll,k6'];exact dn (by push_cast [ze,zd,CLe,zh,hn])
  ·have hn:¬Yv w b l:=fun h=>k6 h.2.2.2.2.2.2;have k6':=WR (show ¬(l.length:Int)<=6 by omega);push_cast [hi',hll];refine cl hok ?_;push_cast [k2'];refine cl hla ?_;push_cast [k3'];refine cl hsh ?_;push_cast [hll,k6'];exact dn (by push_cast [ze,zd,CLe,zh,hn])
theorem ziB (k:Int) (l:List Lz) (hk:k=1∨k=2∨k=3∨k=4∨k=5) (hl:l.length<=90) (hs:∀ x∈l,x.length<=1000):Fun Tryz.prog G0 10 [.sc (.int .i64 k),.sl 1 (zL l)] (.tup [zsw (Yw (jV k :: l)).1,qQ (decide ((Yw (jV k :: l)).2 = []))]) 1:=by
 have hn:=xQ k;have hll:(zL l).length=l.length:=We ..;have hr:=zgt (jV k :: l) (by rw[Wh];omega) (fun x hx=>by
  rcases WH.1 hx with rfl | hx
  ·rcases hk with rfl | rfl | rfl | rfl | rfl<;>decide
  ·exact hs x hx)
 have e:zL (jV k :: l) = [.str (jV k)] :: zL l:=rfl;rw[e]at hr;refine fof (fun i=>if i=1 then Zd 9 10 else if i=2 then [false,false,false,true] else []) Tryz.func10 ?_;dsimp only[Tryz.f10];push_cast;refine cl hn ?_;push_cast
 repeat refine an ?_
 refine cl hr ?_;push_cast;exact ⟨[.inl 1],rfl,rfl,by push_cast [ze,zd,CLe,zh]⟩
end
section
theorem zkf (k:Int) (s:Lz):(Yu k s 58).length<=58:=by
 unfold Yu;refine WJ (OG _ _) ?_;simp
theorem yR (l:List Lz):(Yw l).1.opts.length<=58/\(Yw l).1.operands.length<=l.length/\∀ x∈(Yw l).1.operands,x∈l:=by
 refine ⟨?_,zeU l,?_⟩
 ·cases l with
  | nil=>exact Wc _
  | cons w r =>
   rw[Yw];split
   ·exact Wc _
   ·unfold j4;split
    ·exact Wc _
    ·split
     ·exact Wc _
     ·exact zkf _ _
 ·cases l with
  | nil=>intro x hx;cases hx
  | cons w r =>
   rw[Yw];split
   ·intro x hx;cases hx
   ·unfold j4;split
    ·intro x hx;cases hx
    ·split
     ·intro x hx;cases hx
     ·exact fun x hx=>Wk _ (WS hx)
theorem zh4 {w:qC} (h:Yv w b l):Hh w.fs.xs/\b.length<=1000:=by
 have hs:=h.2.2.2.2.1;have hl:=(zcV h.2.1).len;unfold ZF at hs;simp only[Wt,W7,An,Ow]at hs;obtain ⟨⟨h1,h2⟩,_⟩:=hs;rw[Wg (by omega)]at h1;refine ⟨fun x hx hk=>?_,by omega⟩;have:=h1 x hx;unfold Uc at this;simp only[Wt,W7,not_and]at this;have:=this hk;omega
theorem HS {w:qC} (h:Yv w b l):∀ x∈l,x.length<=1000:=by
 have h1:=h.1;rw[Wg (by have:=h.2.2.2.2.2.2;omega)]at h1;exact h1
theorem zcd (w:Lz) (r:List Lz):(Yw (w :: r)).1.operands.length<=r.length:=by
 rw[Yw];split
 ·exact Wc _
 ·unfold j4;split
  ·exact Wc _
  ·split
   ·exact Wc _
   ·show (r.drop _).length<=_;rw[WZ];omega
end
section
open CA CB
open Go.RowKit
def qk:qC:=⟨⟨9,9,9,[⟨1,2,0,[],1,[⟨[100],3⟩,⟨[102],4⟩]⟩,⟨3,2,1,[],1,[]⟩,⟨4,1,1,[122],0,[]⟩]⟩,[],[]⟩
theorem UN:okW qk:=by decide
theorem jC:GrD 0 (xF qk):=zkZ UN (by
 intro x hx;have:∀ x∈qk.fs.xs,x.kind=3->x.data.length<=1000:=by decide
 exact this x hx) (by decide) (by decide)
theorem vG:Fun Tryz.prog G0 46 [] (Xh qk) 0:=by
 have h1:=ziP (G:=G0) 9 9;have h2:=uX (G:=G0) ⟨9,9,9,[⟨1,2,0,[],1,[]⟩]⟩ ⟨1,2,0,[],1,[⟨[100],3⟩,⟨[102],4⟩]⟩ (by decide);have h3:=zax (G:=G0) ⟨9,9,9,[⟨1,2,0,[],1,[⟨[100],3⟩,⟨[102],4⟩]⟩]⟩ ⟨3,2,1,[],1,[]⟩ rfl (by decide);have h5:=zax (G:=G0) ⟨9,9,9,[⟨1,2,0,[],1,[⟨[100],3⟩,⟨[102],4⟩]⟩,⟨3,2,1,[],1,[]⟩]⟩ ⟨4,1,1,[122],0,[]⟩ rfl (by decide);have e2:qp ⟨1,2,0,[],1,[⟨[100],3⟩,⟨[102],4⟩]⟩ [⟨1,2,0,[],1,[]⟩] = [⟨1,2,0,[],1,[⟨[100],3⟩,⟨[102],4⟩]⟩]:=by decide
 have e3:qp ⟨3,2,1,[],1,[]⟩ [⟨1,2,0,[],1,[⟨[100],3⟩,⟨[102],4⟩]⟩] = [⟨1,2,0,[],1,[⟨[100],3⟩,⟨[102],4⟩]⟩,⟨3,2,1,[],1,[]⟩]:=by decide
 have e5:qp ⟨4,1,1,[122],0,[]⟩ [⟨1,2,0,[],1,[⟨[100],3⟩,⟨[102],4⟩]⟩,⟨3,2,1,[],1,[]⟩]=qk.fs.xs:=by decide
 simp only[e2]at h2;simp only[e3]at h3;simp only[e5]at h5;refine fon Tryz.func46 ?_;dsimp only[Tryz.f46];push_cast;refine cl h1 ?_;push_cast;refine cl h2 ?_;push_cast;refine cl h3 ?_;push_cast;refine cl h5 ?_;push_cast;exact dn (by push_cast [ze,zd,CLe,zh,qk])
def tLn:List Lz:=[[108,110,58,32,34,100,34,58,32,104,97,114,100,32,108,105,110,107,32,110,111,116,32,97,108,108,111,119,101,100,32,102,111,114,32,100,105,114,101,99,116,111,114,121]]
theorem uB:Fun Tryz.prog GD 21 [] (qQ true) 0:=by
 have q0:Fun Tryz.prog GD 46 [] (Xh qk) 0:=vG.g0;have q1:Fun Tryz.prog GD 12 [Xh qk] (Hr (xF qk)) 0:=(Mt qk (by decide) UN.2.2.2.2.1).g0;have q2:Fun Tryz.prog GD 24 [Hr (xF qk),.str [47],.agg [.sc (.int .i64 3),.str [],.sl 1 [[.str [102]],[.str [100]]]]] (Hr (zju 3 [47] [] [[102],[100]] (xF qk))) 0:=Zs 3 [47] [] [[102],[100]] jC (by decide) (by decide) (by decide) (by decide);have q3:Fun Tryz.prog GD 24 [Hr (xF qk),.str [47],.agg [.sc (.int .i64 3),.str [102,115],.sl 1 [[.str [120]],[.str [102]]]]] (Hr (zju 3 [47] [102,115] [[120],[102]] (xF qk))) 0:=Zs 3 [47] [102,115] [[120],[102]] jC (by decide) (by decide) (by decide) (by decide);have q4:Fun Tryz.prog GD 24 [Hr (xF qk),.str [47],.agg [.sc (.int .i64 3),.str [],.sl 1 [[.str [100]],[.str [120]]]]] (Hr (zju 3 [47] [] [[100],[120]] (xF qk))) 0:=Zs 3 [47] [] [[100],[120]] jC (by decide) (by decide) (by decide) (by decide);obtain ⟨dA,hA⟩:∃ d,zju 3 [47] [] [[102],[100]] (xF qk)=d:=⟨_,rfl⟩;obtain ⟨dB,hB⟩:∃ d,zju 3 [47] [102,115] [[120],[102]] (xF qk)=d:=⟨_,rfl⟩;obtain ⟨dC,hC⟩:∃ d,zju 3 [47] [] [[100],[120]] (xF qk)=d:=⟨_,rfl⟩;have p1:dA.ops = [⟨5,0,[47,102],[47,100,47,102],[]⟩]:=by rw[←hA];kernel_rfl
 have p2:dB.ops = [⟨7,1,[47,102],[],[]⟩,⟨4,0,[47,102],[],[120]⟩]:=by rw[←hB];kernel_rfl
 have p4:dC.diags=tLn:=by rw[←hC];kernel_rfl
 rw[hA]at q2;rw[hB]at q3;rw[hC]at q4;have q5:Fun Tryz.prog GD 26 [.sl 5 (dA.ops.map opL),.sl 5 [opL ⟨5,0,[47,102],[47,100,47,102],[]⟩]] (qQ true) 0:=by
  have h:=U3 dA.ops [⟨5,0,[47,102],[47,100,47,102],[]⟩] (by rw[p1];decide);rw[show Js dA.ops [⟨5,0,[47,102],[47,100,47,102],[]⟩]=true by rw[p1];rfl]at h;exact h.g0
 have q6:Fun Tryz.prog GD 26 [.sl 5 (dB.ops.map opL),.sl 5 [opL ⟨7,1,[47,102],[],[]⟩,opL ⟨4,0,[47,102],[],[120]⟩]] (qQ true) 0:=by
  have h:=U3 dB.ops [⟨7,1,[47,102],[],[]⟩,⟨4,0,[47,102],[],[120]⟩] (by rw[p2];decide);rw[show Js dB.ops [⟨7,1,[47,102],[],[]⟩,⟨4,0,[47,102],[],[120]⟩]=true by rw[p2];rfl]at h;exact h.g0
 have q8:Fun Tryz.prog GD 15 [.sl 1 (zL dC.diags),.sl 1 (zL tLn)] (qQ true) 0:=by
  have h:=UA dC.diags tLn (by rw[p4];decide);rw[Wn p4]at h;exact h.g0
 have hS:=(jC.s (by decide)).ws.fs;have hP1:Fun Tryz.prog GD 22 [.agg (fsC qk.fs),.str [47],.agg (zd1 4 [] [[97,47,98,47],[99],[100,47]])] (.tup [.sl 1 (zL [[100,47,98],[100,47,99]]),.sc (.bool true)]) 0:=by
  have h:=Z9 qk.fs jC.b.wi.fs jC.r.fs hS jC.dat [47] (by decide) 4 [] [[97,47,98,47],[99],[100,47]] (by decide) (by decide);rw[show jW qk.fs [47] 4 [] [[97,47,98,47],[99],[100,47]]=some [[100,47,98],[100,47,99]] by kernel_rfl]at h;exact h.g0
 have hP2:Fun Tryz.prog GD 22 [.agg (fsC qk.fs),.str [47],.agg (zd1 4 [] [[97],[98],[102]])] (.tup [.sl 1 (zL []),.sc (.bool false)]) 0:=by
  have h:=Z9 qk.fs jC.b.wi.fs jC.r.fs hS jC.dat [47] (by decide) 4 [] [[97],[98],[102]] (by decide) (by decide);rw[show jW qk.fs [47] 4 [] [[97],[98],[102]]=none by kernel_rfl]at h;exact h.g0
 have q9:Fun Tryz.prog GD 15 [.sl 1 (zL [[100,47,98],[100,47,99]]),.sl 1 (zL [[100,47,98],[100,47,99]])] (qQ true) 0:=by
  have h:=UA [[100,47,98],[100,47,99]] [[100,47,98],[100,47,99]] (by decide);rw[Wn rfl]at h;exact h.g0
 clear hA hB hC p1 p2 p4;refine fon Tryz.func21 ?_;dsimp only[Tryz.f21];push_cast;refine cl q0 ?_;push_cast;refine cl q1 ?_;push_cast;refine cl q2 ?_;push_cast;refine cl q1 ?_;push_cast;refine cl q3 ?_;push_cast;refine cl q1 ?_;push_cast;refine cl q4 ?_;push_cast;refine cl hP1 ?_;push_cast;refine cl hP2 ?_;push_cast;refine cl q5 ?_;push_cast;refine cl q6 ?_;push_cast;refine cl q8 ?_;push_cast;refine cl q9 ?_;push_cast;exact dn
end
section
open CA CB
open Go.RowKit
theorem zkp (h:(Yw (jV 3 :: l)).2 = []):0<(Yw (jV 3 :: l)).1.operands.length:=by
 have e:Yw (jV 3 :: l)=j4 3 (jV 3) (qD (QT 3) Yp [] 0 l) l:=rfl;rw[e]at h ⊢;unfold j4 at h ⊢;generalize qD (QT 3) Yp [] 0 l=q at *;by_cases a:q.2.2≠[]
 ·rw[if_pos a]at h;have h:jV 3++[58,32,105,110,118,97,108,105,100,32,111,112,116,105,111,110,32]++QuotePlain.quoteL q.2.2 = []:=h;simp at h
 rw[if_neg a]at h ⊢;by_cases c:jZ 3 (Yu 3 q.1 58) (l.drop q.2.1)≠[]
 ·rw[if_pos c]at h;have h:jV 3++[58,32]++jZ 3 (Yu 3 q.1 58) (l.drop q.2.1) = []:=h;simp at h
 rw[if_neg c];show 0<(l.drop q.2.1).length;refine WK.2 fun z=>c ?_;rw[z];simp[jZ]
structure zr4 (w:qC) (b:Lz) (l:List Lz) (c:zqT) (s:Lz):Prop where
 g:GrD 0 (xF w)
 b:b.length<=1000
 o:c.opts.length<=1000
 n:c.operands.length<=6
 p:∀ x∈c.operands,x.length<=1000
 ne:s = []->0<c.operands.length
theorem zr4.of {w:qC} (h:Yv w b l):zr4 w b l (Yw (jV 3 :: l)).1 (Yw (jV 3 :: l)).2:=by
 obtain ⟨p1,p2,p3⟩:=yR (jV 3 :: l);obtain ⟨d1,d2⟩:=zh4 h;have h6:=h.2.2.2.2.2.2;have ht:=zcd (jV 3) l;refine ⟨zkZ h.2.1 d1 (by have:=h.2.2.1;omega) (by have:=h.2.2.2.1;omega),d2,by omega,by omega,fun x hx=>?_,zkp⟩;rcases WH.1 (p3 x hx) with rfl | hx
 ·decide
 ·exact HS h x hx
theorem MU (w:qC) (b:Lz) (l:List Lz) (hb:b.length<=2000000):Fun Tryz.prog GD 7 [Xh w,.str b,.sl 1 (zL l)] (qQ true) 0:=by
 have ha:=uB;have hf:Fun Tryz.prog GD 9 _ _ 0:=(zbZ w b l hb).g0;by_cases h:Yv w b l
 case neg =>
  rw[Wm h]at hf;refine fon Tryz.func7 ?_;dsimp only[Tryz.f7];push_cast;refine cl ha ?_;push_cast;refine cl hf ?_;push_cast;refine cl ha ?_;push_cast;exact dn
 rw[Wn h]at hf;have hc:Fun Tryz.prog GD 10 _ _ 1:=(ziB 3 l (by decide) (by have:=h.2.2.2.2.2.2;omega) (HS h)).g0;have hF:=zr4.of h;generalize Yw (jV 3 :: l)=rc at hc hF;obtain ⟨⟨ck,co,cz⟩,s⟩:=rc;dsimp only at hF hc;have hcn:cz.length<=6:=hF.n;by_cases hs:s = []
 case neg =>
  rw[Wm hs]at hc;refine fon Tryz.func7 ?_;dsimp only[Tryz.f7];push_cast;refine cl ha ?_;push_cast;refine cl hf ?_;push_cast;refine cl hc ?_;push_cast;exact dn
 rw[Wn hs]at hc;have q1:Fun Tryz.prog GD 12 [Xh w] (Hr (xF w)) 0:=(Mt w (by have:=(zcV h.2.1).klen;omega) h.2.1.2.2.2.2.1).g0;have q2:=Zs ck b co cz hF.g (by omega) hF.b hF.p (hF.ne hs);have hB:=zcV h.2.1;have q4:Fun Tryz.prog GD 20 _ _ 0:=(zdx (xF w) (hF.g.s (by omega)) (fun z hz=>by have:=(hB.pnode z hz).1;omega)).g0;have q5:Fun Tryz.prog GD 15 _ _ 0:=(UA cz cz (by omega)).g0;rw[Wn rfl]at q5;have l1:(zq w.fs.xs).length=w.fs.xs.length:=We ..;have l2:(zI w.kept).length=w.kept.length:=We ..;have l3:(zq w.pool).length=w.pool.length:=We ..;have b1:=hB.len;have b2:=hB.klen;have b3:=hB.plen;refine fon Tryz.func7 ?_;dsimp only[Tryz.f7];push_cast;refine cl ha ?_;push_cast;refine cl hf ?_;push_cast;refine cl hc ?_;push_cast;refine cl q1 ?_;push_cast
 repeat refine an ?_
 refine cl q2 ?_;push_cast;refine cl hc ?_;push_cast;refine cl q4 ?_;push_cast;refine cl q5 ?_;push_cast;exact dn
end
end Go.Proofs.YtaipngaejfndgaaGreatDoor.Vcg
