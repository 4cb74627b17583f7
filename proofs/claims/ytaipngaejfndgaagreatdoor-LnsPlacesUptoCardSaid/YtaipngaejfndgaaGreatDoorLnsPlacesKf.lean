/- What the proof of LnsPlaces leans on, part 6: Rea Tol Plw Plx Lnw Lnq Sk1 Sk3 Rfi Fit Lnb Ply Lnt. No condition beyond what each theorem states. -/
import Derived.Test.YtaipngaejfndgaaGreatDoorLnsPlacesKe
import Derived.Lib.IndexLaws
set_option linter.unusedVariables false
set_option linter.unusedSimpArgs false
set_option linter.unusedSectionVars false
set_option maxRecDepth 100000
set_option maxHeartbeats 4000000
namespace Go.Proofs.YtaipngaejfndgaaGreatDoor.Vcg
variable {l:List Lz} {n:Nat} {f:FsV} {b:Lz}
section
open CA CB
open Go.RowKit QuotePlain
abbrev u8C (b:UInt8):C:=.sc (.int .u8 (b.toNat:Int))
theorem Mc (l:Lz) (c:UInt8):(Lib.indexByte l c<0)↔c∉l:=by
 constructor
 ·intro h hc;have h1:=Lib.indexByte_ge l c;obtain ⟨k,hk,e⟩:=WF hc;exact Lib.indexByte_none (show Lib.indexByte l c = -1 by omega) k (by rw[Wa hk,e])
 ·intro h;rcases Int.lt_or_le (Lib.indexByte l c) 0 with h1 | h1
  ·exact h1
  ·obtain ⟨o,ho⟩:∃ o:Nat,Lib.indexByte l c=o:=⟨(Lib.indexByte l c).toNat,by omega⟩;obtain ⟨h2,_⟩:=Lib.indexByte_some ho;exact absurd (Wf h2) h
theorem ZP (s:Lz) (c:UInt8) (hs:s.length<=1000000):Fun Tryz.prog G0 37 [.str s,u8C c] (.sc (.bool (decide (c∈s)))) 0:=by
 refine fon Tryz.func37 ?_;dsimp only[Tryz.f37];push_cast;refine loop (fun k:Nat=>⟨[(0,.str s),(1,u8C c),(5,.sc (.int .i64 k))],[],0,0⟩) (fun k=>k<=s.length/\c∉s.take k) (fun k=>s.length-k) 0 ⟨Wc _,by simp⟩ ?_ ?_
 ·exact wk
 ·rintro k ⟨hk,hn⟩;push_cast;refine br (fun h=>?_) (fun h=>?_)
  ·have hk2:k<s.length:=by simp at h;omega
   have hg:s[k]?=some s[k]:=Wa hk2;push_cast [hg];refine ⟨by omega,br (fun h2=>?_) (fun h2=>?_)⟩
   ·push_cast;have h3:s[k]=c:=by simp at h2;exact Ap.1 (by omega)
    have h4:c∈s:=h3▸Wx hk2;exact dn (by push_cast [ze,zd,CLe,zf,h4])
   ·push_cast;have h3:¬c=s[k]:=fun e=>by subst e;simp at h2
    refine ⟨by omega,k+1,⟨by omega,?_⟩,by omega,wk⟩;intro h4;rw[W1,hg]at h4;rcases WG.1 h4 with h5 | h5
    ·exact hn h5
    ·simp at h5;exact h3 h5
  ·have hk2:k=s.length:=by simp at h;omega
   subst hk2;rw[Of]at hn;push_cast;exact dn (by push_cast [ze,zd,CLe,zf,hn])
theorem Nb (k:Int) (o:Lz) (ops:C) (c:UInt8) (hops:ops.cellB=true):Fun Tryz.prog G0 34 [.agg [.sc (.int .i64 k),.str o,ops],u8C c] (.sc (.bool (decide (c∈o)))) 0:=by
 refine fon Tryz.func34 ?_;dsimp only[Tryz.f34];push_cast [hops];refine cl (Zw o c) ?_;push_cast;have e:decide (0<=Lib.indexByte o c)=decide (c∈o):=by
  have:=Mc o c;by_cases h:c∈o
  ·have h2:¬Lib.indexByte o c<0:=fun h3=>this.1 h3 h;simp[h];omega
  ·have h2:=this.2 h;simp[h];omega
 exact dn (by push_cast [ze,zd,CLe,zf,e])
theorem zsc (c d:UInt8):((c.toNat:Int)=(d.toNat:Int))=(c=d):=by
 refine propext ⟨fun h=>Ap.1 (by omega),fun h=>by rw[h]⟩
def Qn (s p:Lz):UInt8:=s.foldl (fun c b=>if b∈p then b else c) 0
theorem Gk (s p:Lz) (i:Nat) (hi:i<s.length):Qn (s.take (i+1)) p=if s[i]∈p then s[i] else Qn (s.take i) p:=by
 unfold Qn;rw[W1,Wa hi,BC];simp
theorem ML (s p:Lz) (hs:s.length<=1000000) (hp:p.length<=1000000):Fun Tryz.prog G0 119 [.str s,.str p] (u8C (Qn s p)) 0:=by
 refine fon Tryz.func119 ?_;dsimp only[Tryz.f119];push_cast;refine loop (fun k:Nat=>⟨[(0,.str s),(1,.str p),(5,u8C (Qn (s.take k) p)),(6,.sc (.int .i64 k))],[],0,0⟩) (fun k=>k<=s.length) (fun k=>s.length-k) 0 (Wc _) ?_ ?_
 ·exact JM.mk [] rfl rfl (Wb _) rfl (by push_cast [ze,zd,CLe,zf]<;>rfl) (by push_cast [ze,zd,CLe,zf])
 ·rintro k hk;push_cast;refine br (fun h=>?_) (fun h=>?_)
  ·have hk2:k<s.length:=by simp at h;omega
   have hg:s[k]?=some s[k]:=Wa hk2;push_cast [hg];refine ⟨by omega,?_⟩;refine cl (ZP p s[k] hp) ?_;push_cast;refine br (fun h2=>?_) (fun h2=>?_)
   ·push_cast [hg];have e:Qn (s.take (k+1)) p=s[k]:=by rw[Gk s p k hk2,if_pos (by simpa using h2)]
    refine ⟨by omega,by omega,k+1,by omega,by omega,wk (by push_cast [ze,zd,CLe,zf,e])⟩
   ·push_cast [hg];have e:Qn (s.take (k+1)) p=Qn (s.take k) p:=by rw[Gk s p k hk2,if_neg (by simpa using h2)]
    refine ⟨by omega,k+1,by omega,by omega,wk (by push_cast [ze,zd,CLe,zf,e])⟩
  ·have hk2:k=s.length:=by simp at h;omega
   subst hk2;rw[Of];push_cast;exact dn
def isO (k:Int) (s:Lz) (x:UInt8):Bool:=if 4<=k/\(x=102∨x=110) then decide (Qn s [102,110]=x) else if x=114 then decide (114∈s∨82∈s) else if x=82 then false else decide (x∈s)
def Y6 (k:Int) (s:Lz) (n:Nat):Lz:=((List.range' 65 n).map UInt8.ofNat).filter (isO k s)
theorem yN (k:Int) (s:Lz) (hs:s.length<=1000000):Fun Tryz.prog G0 69 [.sc (.int .i64 k),.str s] (.str (Y6 k s 58)) 0:=by
 refine fon Tryz.func69 ?_;dsimp only[Tryz.f69];push_cast;refine loop (fun j:Nat=>⟨[(0,.sc (.int .i64 k)),(1,.str s),(5,.str (Y6 k s j)),(6,.sc (.int .i64 (65+j)))],[],0,0⟩) (fun j=>j<=58) (fun j=>58-j) 0 (Wc _) ?_ ?_
 ·exact JM.mk [] rfl rfl (Wb _) rfl (by push_cast [ze,zd,CLe,zf]<;>rfl) (by push_cast [ze,zd,CLe,zf])
 ·rintro j hj;push_cast;refine br (fun h=>?_) (fun h=>?_)
  ·have hj2:j<58:=by simp at h;omega
   obtain ⟨x,hxe,hx⟩:∃ x:UInt8,UInt8.ofNat (65+j)=x/\(65+(j:Int))=(x.toNat:Int):=⟨_,rfl,by rw[UInt8.toNat_ofNat_of_lt' (by show 65+j<256;omega)];omega⟩;have hx1:65+((j:Int)+1)=(x.toNat:Int)+1:=by omega
   have hxb:(x.toNat:Int)<123:=by omega
   have hstep:Y6 k s (j+1)=Y6 k s j++if isO k s x then [x] else []:=by
    unfold Y6;rw[List.range'_concat,W9,OW];simp only[Wm,Wv,Nat.one_mul,hxe,Ab,List.filter_nil]
   have hlo:(Y6 k s j).length<=j:=WM (OH _ _) (by simp);have hI:∀ (n:Nat) (d:UInt8),d.toNat=n->((x.toNat:Int)=(n:Int))=(x=d):=fun n d h=>h▸zsc x d;have hcase:(x=82)∨(x=114)∨(x≠82/\x≠114/\¬4<=k)∨(x=102/\4<=k)∨(x=110/\4<=k)∨(x≠82/\x≠114/\4<=k/\x≠102/\x≠110):=by
    by_cases h1:x=82
    ·exact .inl h1
    ·by_cases h2:x=114
     ·exact .inr (.inl h2)
     ·by_cases h3:4<=k
      ·by_cases h4:x=102
       ·exact .inr (.inr (.inr (.inl ⟨h4,h3⟩)))
       ·by_cases h5:x=110
        ·exact .inr (.inr (.inr (.inr (.inl ⟨h5,h3⟩))))
        ·exact .inr (.inr (.inr (.inr (.inr ⟨h1,h2,h3,h4,h5⟩))))
      ·exact .inr (.inr (.inl ⟨h1,h2,h3⟩))
   clear hxe;rw[hx];push_cast;refine ⟨by omega,?_⟩;refine cl (ZP s x hs) ?_;push_cast;rcases hcase with hc | hc | hc | hc | hc | hc
   ·have f0:isO k s x=false:=by simp[isO,hc]
    have e:Y6 k s (j+1)=Y6 k s j:=by rw[hstep,f0];simp
    have f1:((x.toNat:Int)=82)=True:=(hI 82 82 rfl).trans (by simp[hc]);have f2:((x.toNat:Int)=114)=False:=(hI 114 114 rfl).trans (by simp[hc]);have f3:((x.toNat:Int)=102)=False:=(hI 102 102 rfl).trans (by simp[hc]);have f4:((x.toNat:Int)=110)=False:=(hI 110 110 rfl).trans (by simp[hc]);by_cases h4:4<=k
    all_goals
     push_cast [f1,f2,f3,f4,h4]
     repeat (refine And.intro (by omega) ?_)
     refine ⟨j+1,by omega,by omega,wk (by push_cast [ze,zd,CLe,zf,e,hx1])⟩
   ·have f0:isO k s x=decide (114∈s∨82∈s):=by simp[isO,hc]
    have f1:((x.toNat:Int)=82)=False:=(hI 82 82 rfl).trans (by simp[hc]);have f2:((x.toNat:Int)=114)=True:=(hI 114 114 rfl).trans (by simp[hc]);have f3:((x.toNat:Int)=102)=False:=(hI 102 102 rfl).trans (by simp[hc]);have f4:((x.toNat:Int)=110)=False:=(hI 110 110 rfl).trans (by simp[hc]);push_cast [f1,f2,f3,f4];refine cl (ZP s 114 hs) ?_;push_cast;by_cases h6:114∈s
    ·push_cast [h6];have e:Y6 k s (j+1)=Y6 k s j++[x]:=by rw[hstep,f0];simp[h6]
     by_cases h4:4<=k
     all_goals
      push_cast [f1,f2,f3,f4,h4];refine ⟨[x],rfl,?_⟩;push_cast
      repeat (refine And.intro (by omega) ?_)
      refine ⟨j+1,by omega,by omega,wk (by push_cast [ze,zd,CLe,zf,e,hx1])⟩
    ·push_cast [h6];refine cl (ZP s 82 hs) ?_;push_cast;by_cases h7:82∈s
     ·have e:Y6 k s (j+1)=Y6 k s j++[x]:=by rw[hstep,f0];simp[h7]
      by_cases h4:4<=k
      all_goals
       push_cast [f1,f2,f3,f4,h4,h7];refine ⟨[x],rfl,?_⟩;push_cast
       repeat (refine And.intro (by omega) ?_)
       refine ⟨j+1,by omega,by omega,wk (by push_cast [ze,zd,CLe,zf,e,hx1])⟩
     ·have e:Y6 k s (j+1)=Y6 k s j:=by rw[hstep,f0];simp[h6,h7]
      by_cases h4:4<=k
      all_goals
       push_cast [f1,f2,f3,f4,h4,h7]
       repeat (refine And.intro (by omega) ?_)
       refine ⟨j+1,by omega,by omega,wk (by push_cast [ze,zd,CLe,zf,e,hx1])⟩
   ·have f0:isO k s x=decide (x∈s):=by simp[isO,hc]
    have h4:¬4<=k:=hc.2.2;have f1:((x.toNat:Int)=82)=False:=(hI 82 82 rfl).trans (by simp[hc]);have f2:((x.toNat:Int)=114)=False:=(hI 114 114 rfl).trans (by simp[hc]);by_cases h6:x∈s
    ·have e:Y6 k s (j+1)=Y6 k s j++[x]:=by rw[hstep,f0];simp[h6]
     push_cast [f1,f2,h4,h6];refine ⟨[x],rfl,?_⟩;push_cast
     repeat (refine And.intro (by omega) ?_)
     refine ⟨j+1,by omega,by omega,wk (by push_cast [ze,zd,CLe,zf,e,hx1])⟩
    ·have e:Y6 k s (j+1)=Y6 k s j:=by rw[hstep,f0];simp[h6]
     push_cast [f1,f2,h4,h6]
     repeat (refine And.intro (by omega) ?_)
     refine ⟨j+1,by omega,by omega,wk (by push_cast [ze,zd,CLe,zf,e,hx1])⟩
   ·have f0:isO k s x=decide (Qn s [102,110]=x):=by simp[isO,hc]
    have h4:4<=k:=hc.2;have f1:((x.toNat:Int)=82)=False:=(hI 82 82 rfl).trans (by simp[hc]);have f2:((x.toNat:Int)=114)=False:=(hI 114 114 rfl).trans (by simp[hc]);have f3:((x.toNat:Int)=102)=True:=(hI 102 102 rfl).trans (by simp[hc]);have f4:((x.toNat:Int)=110)=False:=(hI 110 110 rfl).trans (by simp[hc]);push_cast [f1,f2,f3,f4,h4];refine cl (ML s [102,110] hs (by simp)) ?_;push_cast;by_cases h6:Qn s [102,110]=x
    ·have g6:((Qn s [102,110]).toNat=x.toNat)=True:=by simp[h6]
     have e:Y6 k s (j+1)=Y6 k s j++[x]:=by rw[hstep,f0];simp[h6]
     push_cast [g6];refine ⟨[x],rfl,?_⟩;push_cast
     repeat (refine And.intro (by omega) ?_)
     refine ⟨j+1,by omega,by omega,wk (by push_cast [ze,zd,CLe,zf,e,hx1])⟩
    ·have g6:((Qn s [102,110]).toNat=x.toNat)=False:=by simp[Ap,h6]
     have e:Y6 k s (j+1)=Y6 k s j:=by rw[hstep,f0];simp[h6]
     push_cast [g6]
     repeat (refine And.intro (by omega) ?_)
     refine ⟨j+1,by omega,by omega,wk (by push_cast [ze,zd,CLe,zf,e,hx1])⟩
   ·have f0:isO k s x=decide (Qn s [102,110]=x):=by simp[isO,hc]
    have h4:4<=k:=hc.2;have f1:((x.toNat:Int)=82)=False:=(hI 82 82 rfl).trans (by simp[hc]);have f2:((x.toNat:Int)=114)=False:=(hI 114 114 rfl).trans (by simp[hc]);have f3:((x.toNat:Int)=102)=False:=(hI 102 102 rfl).trans (by simp[hc]);have f4:((x.toNat:Int)=110)=True:=(hI 110 110 rfl).trans (by simp[hc]);push_cast [f1,f2,f3,f4,h4];refine cl (ML s [102,110] hs (by simp)) ?_;push_cast;by_cases h6:Qn s [102,110]=x
    ·have g6:((Qn s [102,110]).toNat=x.toNat)=True:=by simp[h6]
     have e:Y6 k s (j+1)=Y6 k s j++[x]:=by rw[hstep,f0];simp[h6]
     push_cast [g6];refine ⟨[x],rfl,?_⟩;push_cast
     repeat (refine And.intro (by omega) ?_)
     refine ⟨j+1,by omega,by omega,wk (by push_cast [ze,zd,CLe,zf,e,hx1])⟩
    ·have g6:((Qn s [102,110]).toNat=x.toNat)=False:=by simp[Ap,h6]
     have e:Y6 k s (j+1)=Y6 k s j:=by rw[hstep,f0];simp[h6]
     push_cast [g6]
     repeat (refine And.intro (by omega) ?_)
     refine ⟨j+1,by omega,by omega,wk (by push_cast [ze,zd,CLe,zf,e,hx1])⟩
   ·have f0:isO k s x=decide (x∈s):=by simp[isO,hc]
    have h4:4<=k:=hc.2.2.1;have f1:((x.toNat:Int)=82)=False:=(hI 82 82 rfl).trans (by simp[hc]);have f2:((x.toNat:Int)=114)=False:=(hI 114 114 rfl).trans (by simp[hc]);have f3:((x.toNat:Int)=102)=False:=(hI 102 102 rfl).trans (by simp[hc]);have f4:((x.toNat:Int)=110)=False:=(hI 110 110 rfl).trans (by simp[hc]);by_cases h6:x∈s
    ·have e:Y6 k s (j+1)=Y6 k s j++[x]:=by rw[hstep,f0];simp[h6]
     push_cast [f1,f2,f3,f4,h4,h6];refine ⟨[x],rfl,?_⟩;push_cast
     repeat (refine And.intro (by omega) ?_)
     refine ⟨j+1,by omega,by omega,wk (by push_cast [ze,zd,CLe,zf,e,hx1])⟩
    ·have e:Y6 k s (j+1)=Y6 k s j:=by rw[hstep,f0];simp[h6]
     push_cast [f1,f2,f3,f4,h4,h6]
     repeat (refine And.intro (by omega) ?_)
     refine ⟨j+1,by omega,by omega,wk (by push_cast [ze,zd,CLe,zf,e,hx1])⟩
  ·have hj2:j=58:=by simp at h;omega
   subst hj2;push_cast;exact dn
abbrev Acc:=Lz->UInt8->Lz
def Y2 (all:Lz) (f:Acc):Lz->Lz->Lz×Lz
 | a,[]=>(a,[])
 | a,c :: r=>if c∈all then Y2 all f (f a c) r else (a,[c])
def qW (all:Lz) (f:Acc):Lz->Nat->List Lz->Lz×Nat×Lz
 | a,n,[]=>(a,n,[])
 | a,n,w :: r=>if w = [45,45] then (a,n+1,[]) else if w.length<2∨w[0]?≠some 45 then (a,n,[]) else
   if (Y2 all f a w.tail).2 = [] then qW all f (Y2 all f a w.tail).1 (n+1) r else ((Y2 all f a w.tail).1,n,(Y2 all f a w.tail).2)
def Uf (k:Int):Lz:=if k=1 then [112] else if k=2 then [100,102,114,82] else if k=3 then [102,110,115,84] else if k=4 then [102,110,84] else if k=5 then [102,110,114,82,80,84] else []
abbrev Xe:Acc:=fun s c=>s++[c]
theorem zbW {all:Lz} {f:Acc} {a w:Lz} {i:Nat} (hi:i<w.length):Y2 all f a (w.drop i)=if w[i]∈all then Y2 all f (f a w[i]) (w.drop (i+1)) else (a,[w[i]]):=by
 rw[Oe hi,Y2]
theorem G8 {all:Lz} {f:Acc} {a:Lz} (hn:n<l.length):qW all f a n (l.drop n)=if l[n] = [45,45] then (a,n+1,[]) else if l[n].length<2∨l[n][0]?≠some 45 then (a,n,[]) else
   if (Y2 all f a l[n].tail).2 = [] then qW all f (Y2 all f a l[n].tail).1 (n+1) (l.drop (n+1)) else ((Y2 all f a l[n].tail).1,n,(Y2 all f a l[n].tail).2):=by
 rw[Oe hn,qW]
theorem zlq {w:Lz} {i:Nat} (hi:i<w.length):(w.take (i+1)).drop i = [w[i]]:=by
 rw[W1,Wa hi];exact List.drop_left' (by rw[W6];omega)
theorem uJ (k:Int) (l:List Lz) (hk:k=1∨k=2∨k=3∨k=4∨k=5) (hl:l.length<=100) (hs:∀ x∈l,x.length<=1000) :
  Fun Tryz.prog G0 68 [.sc (.int .i64 k),.sl 1 (zF l)] (.tup [.str (qW (Uf k) Xe [] 0 l).1,.sc (.int .i64 (qW (Uf k) Xe [] 0 l).2.1),.str (qW (Uf k) Xe [] 0 l).2.2]) 0:=by
 obtain ⟨A,hA⟩:∃ A,Uf k=A:=⟨_,rfl⟩;have hall:A.length<=1000000:=by
  subst hA;rcases hk with rfl | rfl | rfl | rfl | rfl<;>decide
 rw[hA];refine fon Tryz.func68 ?_;dsimp only[Tryz.f68];rcases hk with rfl | rfl | rfl | rfl | rfl
 case' inl=>have e:A = [112]:=hA.symm.trans rfl
 case' inr.inl=>have e:A = [100,102,114,82]:=hA.symm.trans rfl
 case' inr.inr.inl=>have e:A = [102,110,115,84]:=hA.symm.trans rfl
 case' inr.inr.inr.inl=>have e:A = [102,110,84]:=hA.symm.trans rfl
 case' inr.inr.inr.inr=>have e:A = [102,110,114,82,80,84]:=hA.symm.trans rfl
 all_goals
  push_cast;refine loop (fun p:Nat×Lz=>⟨[(1,.sl 1 (zF l)),(7,.str A),(8,.str p.2),(9,.sc (.int .i64 p.1))],[],0,0⟩) (fun p=>p.1<=l.length/\qW A Xe [] 0 l=qW A Xe p.2 p.1 (l.drop p.1)/\p.2.length<=1000*p.1) (fun p=>l.length-p.1) (0,[]) ⟨Wc _,rfl,Wc _⟩ ?_ ?_
  ·exact wk (by push_cast [ze,zd,CLe,zf,e])
  ·clear e hA;rintro ⟨n,s⟩ ⟨hn,hq,hsl⟩;dsimp only at hn hq hsl ⊢;by_cases h:n<l.length
   ·have hg:=Ze l n h;have hlw:=hs l[n] (Wx h);have hstep:=G8 (all:=A) (f:=Xe) (a:=s) h;generalize hw:l[n]=w at hg hlw hstep;by_cases h45:w = [45,45]
    ·rw[if_pos h45]at hstep;have hr:=hq.trans hstep;push_cast [h,hg,h45]
     repeat refine an ?_
     exact dn (by push_cast [ze,zd,CLe,zf,hr])
    ·rw[if_neg h45]at hstep;by_cases h2:w.length<2
     ·rw[if_pos (.inl h2)]at hstep;have hr:=hq.trans hstep;have h2':((w.length:Int)<2)=True:=eq_true (by omega);push_cast [h,hg,h45,h2']
      repeat refine an ?_
      exact dn (by push_cast [ze,zd,CLe,zf,hr])
     ·have h2':((w.length:Int)<2)=False:=WH (by omega);have h0:w[0]?=some w[0]:=Wa (by omega);by_cases h3:w[0]=45
      ·have h3':((w[0].toNat:Int)=45)=True:=eq_true (by rw[h3];rfl);rw[if_neg (by rw[h0,h3];simp;omega)]at hstep;push_cast [h,hg,h45,h2',h0,h3']
       repeat refine an ?_
       refine loop (fun q:Nat×Lz=>⟨[(1,.sl 1 (zF l)),(7,.str A),(8,.str q.2),(9,.sc (.int .i64 n)),(10,.sc (.int .i64 q.1))],[],0,0⟩) (fun q=>1<=q.1/\q.1<=w.length/\Y2 A Xe s w.tail=Y2 A Xe q.2 (w.drop q.1)/\q.2.length+1<=1000*n+q.1) (fun q=>w.length-q.1) (1,s) ⟨Wb _,by dsimp only;omega,by simp,by dsimp only;omega⟩ ?_ ?_
       ·exact wk
       ·rintro ⟨i,t⟩ ⟨hi1,hi2,hi3,hi4⟩;dsimp only at hi1 hi2 hi3 hi4 ⊢;by_cases hi:i<w.length
        ·have hgi:w[i]?=some w[i]:=Wa hi;have hws:=zbW (all:=A) (f:=Xe) (a:=t) hi;push_cast [h,hg,hi,hgi]
         repeat refine an ?_
         refine cl (ZP A w[i] hall) ?_;push_cast;by_cases hm:w[i]∈A
         ·rw[if_pos hm]at hws;push_cast [hm,hg,hgi]
          repeat refine an ?_
          refine ⟨(i+1,t++[w[i]]),⟨by omega,by dsimp only;omega,hi3.trans hws,by simp;omega⟩,by dsimp only;omega,wk (by push_cast [ze,zd,CLe,zf,zlq hi])⟩
         ·rw[if_neg hm]at hws;rw[if_neg (by rw[hi3,hws];simp),hi3,hws]at hstep;have hr:=hq.trans hstep;push_cast [hm,hg,hgi]
          repeat refine an ?_
          exact dn (by push_cast [ze,zd,CLe,zf,hr,zlq hi])
        ·have hil:i=w.length:=by omega
         rw[hil,AO,Y2]at hi3;rw[if_pos (by rw[hi3]),hi3]at hstep;push_cast [h,hg,hi]
         repeat refine an ?_
         exact ⟨(n+1,t),⟨by dsimp only;omega,hq.trans hstep,by dsimp only;omega⟩,by dsimp only;omega,wk⟩
      ·have h3':((w[0].toNat:Int)=45)=False:=WH (fun hh=>h3 (Ap.1 (by show _=45;omega)));rw[if_pos (.inr (by rw[h0];simpa using h3))]at hstep;have hr:=hq.trans hstep;push_cast [h,hg,h45,h2',h0,h3']
       repeat refine an ?_
       exact dn (by push_cast [ze,zd,CLe,zf,hr])
   ·have hkl:n=l.length:=by omega
    subst hkl;have hr:=hq;rw[AO,qW]at hr;push_cast [h];exact dn (by push_cast [ze,zd,CLe,zf,hr])
def zeJ (k:Int):Nat:=if k=4∨k=5 then 2 else 1
def Jw (k:Int) (o:Lz) (ops:List Lz):Lz:=
 if ops.length=0 then (if k=2/\102∈o then [] else [109,105,115,115,105,110,103,32,111,112,101,114,97,110,100])
 else if ops.length<(if 84∈o then 2 else zeJ k) then [109,105,115,115,105,110,103,32,100,101,115,116,105,110,97,116,105,111,110,32,111,112,101,114,97,110,100,32,97,102,116,101,114,32]++qG (ops.getD (ops.length-1) [])
 else if 84∈o/\2<ops.length then [101,120,116,114,97,32,111,112,101,114,97,110,100,32]++qG (ops.getD 2 []) else []
theorem Z2 (l:Lz):(qG l).length<=4*l.length+2:=by
 have:=QuoteWalk.mid_len l;simp only[qG,Wg,Wj,Wz];omega
structure zry where
 kind:Int
 opts:Lz
 operands:List Lz
def Ya (w:Lz):Nat->Int
 | 0=>0
 | j+1=>if JQ ((j+1:Nat):Int)=w then ((j+1:Nat):Int) else Ya w j
def X1:zry:=⟨0,[],[]⟩
def JF (kind:Int) (w:Lz) (q:Lz×Nat×Lz) (r:List Lz):zry×Lz:=
 if q.2.2≠[] then (X1,w++[58,32,105,110,118,97,108,105,100,32,111,112,116,105,111,110,32]++qG q.2.2)
 else if Jw kind (Y6 kind q.1 58) (r.drop q.2.1)≠[] then (X1,w++[58,32]++Jw kind (Y6 kind q.1 58) (r.drop q.2.1))
 else (⟨kind,Y6 kind q.1 58,r.drop q.2.1⟩,[])
def X2:List Lz->zry×Lz
 | []=>(X1,[109,105,115,115,105,110,103,32,99,111,109,109,97,110,100])
 | w :: r=>if Ya w 5=0 then (X1,qG w++[58,32,117,110,107,110,111,119,110,32,99,111,109,109,97,110,100])
  else JF (Ya w 5) w (qW (Uf (Ya w 5)) Xe [] 0 r) r
theorem Mu (w:Lz):∀ j,0<=Ya w j/\Ya w j<=j
 | 0=>⟨Ao _,Ao _⟩
 | j+1=>by
  have:=Mu w j;unfold Ya;split<;>omega
theorem Mz (A:Lz) (f:Acc):∀ (w s:Lz),(Y2 A f s w).2.length<=1
 | [],s=>Wc _
 | c :: w,s=>by
  rw[Y2];split
  ·exact Mz A f w _
  ·exact Wb _
theorem M5 (A:Lz):∀ (w s:Lz),(Y2 A Xe s w).1.length<=s.length+w.length
 | [],s=>by simp[Y2]
 | c :: w,s=>by
  rw[Y2];split
  ·have h0:(Xe s c).length=s.length+1:=by simp
   have:=M5 A w (Xe s c);simp only[Wg];omega
  ·simp only[Wg];omega
theorem Ud (A:Lz):∀ (l:List Lz) (s:Lz) (n:Nat),(∀ x∈l,x.length<=1000)->(qW A Xe s n l).1.length<=s.length+1000*l.length/\(qW A Xe s n l).2.1<=n+l.length/\(qW A Xe s n l).2.2.length<=1
 | [],s,n,_=>by simp[qW]
 | w :: l,s,n,h=>by
  have hw:=h w (Wk ..);have h1:=Mz A Xe w.tail s;have h2:=M5 A w.tail s;have h3:w.tail.length<=1000:=by rw[List.length_tail];omega
  have ih:=Ud A l (Y2 A Xe s w.tail).1 (n+1) fun x hx=>h x (Wl _ hx);rw[qW];simp only[Wg];split
  ·simp only[Wz];omega
  ·split
   ·simp only[Wz];omega
   ·split
    ·omega
    ·dsimp only;omega
abbrev zs3 (c:zry):C:=.agg [.sc (.int .i64 c.kind),.str c.opts,.own 0 9 1 (zF c.operands)]
theorem zg6 (l:List Lz) (hl:l.length<=100) (hs:∀ x∈l,x.length<=1000) :
  Fun Tryz.prog G0 31 [.sl 1 (zF l)] (.tup [zs3 (X2 l).1,.str (X2 l).2]) 1:=by
 refine fof (fun i=>if i=15 then [false,false,false,false,false,false,true,false,true] else []) Tryz.func31 ?_;dsimp only[Tryz.f31];rcases l with _ | ⟨w,r⟩
 ·push_cast [zF,Wv,Wz];exact ⟨[.inr (9,1)],rfl,rfl,by push_cast [ze,zd,CLe,zf,X2,X1]<;>rfl⟩
 ·have hlr:r.length<=99:=by simp at hl;omega
  have hw:=hs w (Wk ..);have hsr:∀ x∈r,x.length<=1000:=fun x hx=>hs x (Wl _ hx);have hsC:zF (w :: r) = [.str w] :: zF r:=rfl;have hp0:((r.length:Int)+1=0)=False:=WH (by omega);rw[hsC];push_cast [hp0];refine loop (fun j:Nat=>⟨[(0,.sl 1 ([.str w] :: zF r)),(2,.ptr 0 0),(4,.sc (.int .i64 (Ya w j))),(5,.sc (.int .i64 ((j:Int)+1)))],[[.sc (.int .i64 0),.str [],.sc (.slice none 0 0)]],0,0⟩) (fun j=>j<=5) (fun j=>5-j) 0 (Wc _) ?_ ?_
  ·exact wk (by push_cast [ze,zd,CLe,zf,Ya])
  ·rintro j hj;by_cases h:j<5
   ·have hp1:((j:Int)+1<=5)=True:=eq_true (by omega);push_cast [hp1];refine cl (xO ((j:Int)+1)) ?_;push_cast;have hku:Ya w (j+1)=if JQ ((j:Int)+1)=w then (j:Int)+1 else Ya w j:=by simp[Ya]
    by_cases hm:JQ ((j:Int)+1)=w
    ·rw[if_pos hm]at hku;push_cast [hm]
     repeat refine an ?_
     exact ⟨j+1,by omega,by omega,wk (by push_cast [ze,zd,CLe,zf,hku])⟩
    ·rw[if_neg hm]at hku;push_cast [hm]
     repeat refine an ?_
     exact ⟨j+1,by omega,by omega,wk (by push_cast [ze,zd,CLe,zf,hku])⟩
   ·have hp1:((j:Int)+1<=5)=False:=WH (by omega);have hj5:j=5:=by omega
    subst hj5;have hkle:=Mu w 5;have hrd:X2 (w :: r)=if Ya w 5=0 then (X1,qG w++[58,32,117,110,107,110,111,119,110,32,99,111,109,109,97,110,100]) else JF (Ya w 5) w (qW (Uf (Ya w 5)) Xe [] 0 r) r:=rfl;generalize Ya w 5=K at hkle hrd ⊢;by_cases hK0:K=0
    ·rw[if_pos hK0]at hrd;have hq:=Z2 w;push_cast [hp1,hK0];refine cl (QF w (by omega)) ?_;push_cast
     repeat refine an ?_
     exact ⟨[.inr (9,1)],rfl,rfl,by push_cast [ze,zd,CLe,zf,hrd,X1]<;>rfl⟩
    ·rw[if_neg hK0]at hrd;have hkk:K=1∨K=2∨K=3∨K=4∨K=5:=by omega
     have hlet:=uJ K r hkk (by omega) hsr;have hbnd:=Ud (Uf K) r [] 0 hsr;generalize qW (Uf K) Xe [] 0 r=q at hlet hbnd hrd ⊢;obtain ⟨s,n,bad⟩:=q;dsimp only at hlet hbnd;push_cast [hp1,hK0]
     repeat refine an ?_
     refine cl hlet ?_;push_cast;by_cases hbad:bad = []
     ·have hdr:List.drop (1+(n:Int)).toNat ([C.str w] :: zF r)=zF (r.drop n):=by
       rw[show (1+(n:Int)).toNat=n+1 by omega,A9];simp[zF]
      have hop:(r.drop n).length<=99:=by rw[WZ];omega
      have hso:∀ x∈r.drop n,x.length<=1000:=fun x hx=>hsr x (WU hx);have hrt:JF K w (s,n,bad) r=if Jw K (Y6 K s 58) (r.drop n)≠[] then (X1,w++[58,32]++Jw K (Y6 K s 58) (r.drop n)) else (⟨K,Y6 K s 58,r.drop n⟩,[]):=by
       unfold JF;rw[if_neg (by simpa using hbad)]
      rw[hrt]at hrd;have h84:=ZP (Y6 K s 58) 84 (by have:=OH (isO K s) ((List.range' 65 58).map UInt8.ofNat);simp at this;unfold Y6;omega);have h102:=ZP (Y6 K s 58) 102 (by have:=OH (isO K s) ((List.range' 65 58).map UInt8.ofNat);simp at this;unfold Y6;omega);generalize r.drop n=ops at hop hso hrd hdr;push_cast [hbad];refine cl (yN K s (by simp at hbnd;omega)) ?_;push_cast [hdr];generalize Y6 K s 58=O at h84 h102 hrd ⊢
      repeat refine an ?_
      have hleast:zeJ K=if 4<=K then 2 else 1:=by
       unfold zeJ;by_cases h4:4<=K
       ·rw[if_pos h4,if_pos (by omega)]
       ·rw[if_neg h4,if_neg (by omega)]
      rcases ops with _ | ⟨x,_ | ⟨y,_ | ⟨z,t⟩⟩⟩
      ·by_cases hK2:K=2/\102∈O
       ·have hwv:Jw K O [] = []:=by simp[Jw,hK2]
        have hr2:=hrd;rw[hwv,if_neg (by simp)]at hr2;have h4:¬4<=K:=by omega
        have hK2':=hK2.1;have m102:=hK2.2;by_cases m84:84∈O
        all_goals
         push_cast [h4,zF,Wv,Wm,Wz,Wg];refine cl h84 ?_;push_cast [m84,hK2',zF,Wv,Wm,Wz,Wg];refine cl h102 ?_;push_cast [m102,zF,Wv,Wm,Wz,Wg];exact ⟨[.inl 0],rfl,rfl,by push_cast [ze,zd,CLe,zf,hr2,hK2',zF,Wv,Wm,Wz,Wg]⟩
       ·have hwv:Jw K O [] = [109,105,115,115,105,110,103,32,111,112,101,114,97,110,100]:=by simp[Jw,hK2]
        have hr2:=hrd;rw[hwv,if_pos (by simp)]at hr2;by_cases hK2':K=2
        ·have m102:102∉O:=fun h=>hK2 ⟨hK2',h⟩;have h4:¬4<=K:=by omega
         by_cases m84:84∈O
         all_goals
          push_cast [h4,zF,Wv,Wm,Wz,Wg];refine cl h84 ?_;push_cast [m84,hK2',zF,Wv,Wm,Wz,Wg];refine cl h102 ?_;push_cast [m102,zF,Wv,Wm,Wz,Wg]
          repeat refine an ?_
          exact ⟨[.inr (9,1)],rfl,rfl,by push_cast [ze,zd,CLe,zf,hr2,X1,WT,Oh,OB]<;>rfl⟩
        ·by_cases h4:4<=K<;>by_cases m84:84∈O
         all_goals
          push_cast [h4,hK2',zF,Wv,Wm,Wz,Wg]
          try refine cl h84 ?_;push_cast [m84,hK2',zF,Wv,Wm,Wz,Wg]
          repeat refine an ?_
          exact ⟨[.inr (9,1)],rfl,rfl,by push_cast [ze,zd,CLe,zf,hr2,X1,WT,Oh,OB]<;>rfl⟩
      ·have hx:=hso x (by simp);have hqx:=Z2 x;by_cases hl2:4<=K∨84∈O
       ·have hwv:Jw K O [x] = [109,105,115,115,105,110,103,32,100,101,115,116,105,110,97,116,105,111,110,32,111,112,101,114,97,110,100,32,97,102,116,101,114,32]++qG x:=by
         unfold Jw;rw[if_neg (by simp),if_pos (by rw[hleast];rcases hl2 with h | h<;>simp[h])];rfl
        have hr2:=hrd;rw[hwv,if_pos (by simp)]at hr2;have h3:(4<=K/\84∈O)∨(4<=K/\84∉O)∨(¬4<=K/\84∈O):=by
         by_cases a:4<=K<;>by_cases b:84∈O<;>simp[a,b]at hl2 ⊢
        rcases h3 with ⟨h4,m84⟩ | ⟨h4,m84⟩ | ⟨h4,m84⟩
        all_goals
         push_cast [h4,zF,Wv,Wm,Wz,Wg]
         try refine cl h84 ?_;push_cast [m84,zF,Wv,Wm,Wz,Wg]
         repeat refine an ?_
         refine cl (QF x (by omega)) ?_;push_cast
         repeat refine an ?_
         exact ⟨[.inr (9,1)],rfl,rfl,by push_cast [ze,zd,CLe,zf,hr2,X1,WT,Oh,OB]<;>rfl⟩
       ·have h4:¬4<=K:=fun h=>hl2 (.inl h);have m84:84∉O:=fun h=>hl2 (.inr h);have hwv:Jw K O [x] = []:=by
         unfold Jw;rw[if_neg (by simp),hleast];simp[h4,m84]
        have hr2:=hrd;rw[hwv,if_neg (by simp)]at hr2;push_cast [h4,zF,Wv,Wm,Wz,Wg];refine cl h84 ?_;push_cast [m84,zF,Wv,Wm,Wz,Wg];exact ⟨[.inl 0],rfl,rfl,by push_cast [ze,zd,CLe,zf,hr2,zF,Wv,Wm,Wz,Wg]⟩
      ·have hwv:Jw K O [x,y] = []:=by
        unfold Jw;rw[if_neg (by simp),hleast];by_cases h4:4<=K<;>by_cases m84:84∈O<;>simp[h4,m84]
       have hr2:=hrd;rw[hwv,if_neg (by simp)]at hr2;by_cases h4:4<=K<;>by_cases m84:84∈O
       all_goals
        push_cast [h4,zF,Wv,Wm,Wz,Wg]
        try refine cl h84 ?_;push_cast [m84,zF,Wv,Wm,Wz,Wg]
        exact ⟨[.inl 0],rfl,rfl,by push_cast [ze,zd,CLe,zf,hr2,zF,Wv,Wm,Wz,Wg]⟩
      ·have hz:=hso z (by simp);have hqz:=Z2 z;have hp0:((t.length:Int)+1+1+1=0)=False:=WH (by omega);have hp2:((t.length:Int)+1+1+1<2)=False:=WH (by omega);have hp3:((t.length:Int)+1+1+1<1)=False:=WH (by omega);have hp4:(2<(t.length:Int)+1+1+1)=True:=eq_true (by omega);have hp5:(0<(t.length:Int)+1+1+1)=True:=eq_true (by omega);by_cases m84:84∈O
       ·have hwv:Jw K O (x :: y :: z :: t) = [101,120,116,114,97,32,111,112,101,114,97,110,100,32]++qG z:=by
         unfold Jw;rw[if_neg (by simp),hleast,if_neg (by simp[m84]),if_pos (by simp[m84])];rfl
        have hr2:=hrd;rw[hwv,if_pos (by simp)]at hr2;by_cases h4:4<=K
        all_goals
         push_cast [h4,hp0,hp2,hp3,hp4,hp5,zF,Wv,Wm,Wz,Wg]
         try refine cl h84 ?_;push_cast [m84,hp0,hp2,hp3,hp4,hp5,zF,Wv,Wm,Wz,Wg]
         try refine cl h84 ?_;push_cast [m84,hp0,hp2,hp3,hp4,hp5,zF,Wv,Wm,Wz,Wg]
         repeat refine an ?_
         refine cl (QF z (by omega)) ?_;push_cast
         repeat refine an ?_
         exact ⟨[.inr (9,1)],rfl,rfl,by push_cast [ze,zd,CLe,zf,hr2,X1,WT,Oh,OB]<;>rfl⟩
       ·have hwv:Jw K O (x :: y :: z :: t) = []:=by
         unfold Jw;rw[if_neg (by simp),hleast];by_cases h4:4<=K<;>simp[h4,m84]
        have hr2:=hrd;rw[hwv,if_neg (by simp)]at hr2;by_cases h4:4<=K
        all_goals
         push_cast [h4,hp0,hp2,hp3,hp4,hp5,zF,Wv,Wm,Wz,Wg]
         try refine cl h84 ?_;push_cast [m84,hp0,hp2,hp3,hp4,hp5,zF,Wv,Wm,Wz,Wg]
         try refine cl h84 ?_;push_cast [m84,hp0,hp2,hp3,hp4,hp5,zF,Wv,Wm,Wz,Wg]
         exact ⟨[.inl 0],rfl,rfl,by push_cast [ze,zd,CLe,zf,hr2,zF,Wv,Wm,Wz,Wg]⟩
     ·have hqb:=Z2 bad;have hrt:JF K w (s,n,bad) r=(X1,w++[58,32,105,110,118,97,108,105,100,32,111,112,116,105,111,110,32]++qG bad):=by
       unfold JF;rw[if_pos (by simpa using hbad)]
      rw[hrt]at hrd;push_cast [hbad]
      repeat refine an ?_
      refine cl (QF bad (by omega)) ?_;push_cast
      repeat refine an ?_
      exact ⟨[.inr (9,1)],rfl,rfl,by push_cast [ze,zd,CLe,zf,hrd,X1]<;>rfl⟩
theorem zhD (l:List Lz):(X2 l).1.operands.length<=l.length:=by
 cases l with
 | nil=>simp[X2,X1]
 | cons w r =>
  rw[X2];split
  ·simp[X1]
  ·unfold JF;split
   ·simp[X1]
   ·split
    ·simp[X1]
    ·simp only[WZ,Wg];omega
end
section
open CA CB
open Go.RowKit
abbrev zbV (k:Int) (o:Lz) (ops:List Lz):List C:=[.sc (.int .i64 k),.str o,.sl 1 (zF ops)]
theorem zhb (d:qn) (hd:d.diags.length<=80000) (k w:Int) (a b:Lz) (e:Int) (ha:a.length<=3000) (hb:b.length<=3000):Fun Tryz.prog GD 36 [Mp d,.sc (.int .i64 k),.sc (.int .i64 w),.str a,.str b,.sc (.int .i64 e)] (Mp (qN d (Jf k w a b e))) 0:=
 (ze1 d hd k w a b e ha hb).weak (by push_cast [ze,zd,CLe,zf,qN])
end
section
open CA CB
open Go.RowKit
theorem zbq {p:Lz} (h:zk (zx f b p true).1.ino f.xs=false):Q7 f b p=false:=by
 unfold Q7;rw[zfO h,AK];exact .inr rfl
theorem ziX (f:FsV) (hf:FsI f) (hr:FsR f) (hs:FsS f) (hd:HB f.xs) (b p:Lz) (hb:b.length<=100000) (hp:p.length<=3000):Fun Tryz.prog G0 74 [.agg (fsC f),.str b,.str p] (.sc (.bool (Q7 f b p))) 0:=by
 have hsk:=Qu f hf hr hs hd b p true hb hp;have hg:=jp (G:=G0) f (zx f b p true).1.ino (by have:=hs.len;omega) hf.rises;have e:Q7 f b p=(decide ((zx f b p true).2=0)&&decide ((zg (zx f b p true).1.ino f.xs).kind=2)):=rfl;have hno:=zbq (f:=f) (b:=b) (p:=p);by_cases h1:(zx f b p true).2=0
 ·have h1':=eq_true h1;rw[Wo h1,Ol]at e;cases hh:zk (zx f b p true).1.ino f.xs with
  | false =>
   rw[hh]at hg;rw[hno hh];refine fon Tryz.func74 ?_;dsimp only[Tryz.f74];push_cast;refine cl hsk ?_;push_cast [h1'];refine cl hg ?_;push_cast [h1'];exact dn
  | true =>
   rw[hh]at hg;rw[e];refine fon Tryz.func74 ?_;dsimp only[Tryz.f74];push_cast;refine cl hsk ?_;push_cast [h1'];refine cl hg ?_;push_cast [h1'];exact dn
 ·have h1':=WH h1;rw[Wp h1,Oa]at e;rw[e];refine fon Tryz.func74 ?_;dsimp only[Tryz.f74];push_cast;refine cl hsk ?_;push_cast [h1'];refine cl hg ?_;push_cast [h1'];exact dn
theorem Yj {ops:List Lz} (h:0<ops.length):ops[ops.length-1]?=some (ops.getLastD []):=by
 rcases AM ops with e | ⟨l,x,e⟩
 ·rw[e]at h;exact absurd h (Nat.lt_irrefl 0)
 ·rw[e,Au,List.getLastD_concat];simp
theorem zjY (f:FsV) (hf:FsI f) (hr:FsR f) (hs:FsS f) (hd:HB f.xs) (b:Lz) (hb:b.length<=100000) (k:Int) (o:Lz) (ops:List Lz) (hn:ops.length<=1000) (hp:∀ x∈ops,x.length<=1000):Fun Tryz.prog G0 48 [.agg (fsC f),.str b,.agg (zbV k o ops)] (.sc (.bool (Hh f b k o ops))) 0:=by
 have hll:(zF ops).length=ops.length:=We ..;have e:Hh f b k o ops=(!decide (ops.length<2)&&!decide ((84:UInt8)∈o)&&!Gb f b k o (ops.getLastD [])&&Q7 f b (ops.getLastD [])):=rfl;have h84:=Nb k o (.sl 1 (zF ops)) 84 rfl;have h110:=Nb k o (.sl 1 (zF ops)) 110 rfl;by_cases c1:ops.length<2
 ·have c1':=eq_true (show (ops.length:Int)<2 by omega);rw[Wo c1]at e;rw[e];refine fon Tryz.func48 ?_;dsimp only[Tryz.f48];push_cast [hll,c1'];exact dn (by push_cast [ze,zd,CLe,zf,AY,Oa])
 have c1':=WH (show ¬(ops.length:Int)<2 by omega);rw[Wp c1]at e;by_cases c2:(84:UInt8)∈o
 ·rw[Wo c2]at e h84;rw[e];refine fon Tryz.func48 ?_;dsimp only[Tryz.f48];push_cast [hll,c1'];refine cl h84 ?_;push_cast;exact dn (by push_cast [ze,zd,CLe,zf,AY,Oa,O9])
 rw[Wp c2]at e h84;have hlg:=Yj (ops:=ops) (by omega);have hla:(zF ops)[ops.length-1]?=some [.str (ops.getLastD [])]:=by rw[Ws,hlg];rfl
 have hlx:((ops.length:Int)-1).toNat=ops.length-1:=by omega
 have hll2:(ops.getLastD []).length<=1000:=hp _ (Wf hlg);have hdi:=ziX f hf hr hs hd b (ops.getLastD []) hb (by omega);have hsk:=Qu f hf hr hs hd b (ops.getLastD []) false hb (by omega);have hg:=jp (G:=G0) f (zx f b (ops.getLastD []) false).1.ino (by have:=hs.len;omega) hf.rises;have el:Gb f b k o (ops.getLastD [])=(decide (k=3)&&decide ((110:UInt8)∈o)&&decide ((zx f b (ops.getLastD []) false).2=0)&&decide ((zg (zx f b (ops.getLastD []) false).1.ino f.xs).kind=3)):=rfl;clear hlg;generalize ops.getLastD []=p at *;have hno:zk (zx f b p false).1.ino f.xs=false->(zg (zx f b p false).1.ino f.xs).kind≠3:=fun q=>by rw[zfO q];exact show ¬(0:Int)=3 by decide
 generalize zx f b p false=T at *;by_cases c3:k=3
 ·have c3':=eq_true c3;by_cases c4:(110:UInt8)∈o
  ·rw[Wo c4]at h110 el;rw[Wo c3]at el;by_cases c5:T.2=0
   ·have c5':=eq_true c5;rw[Wo c5]at el;cases c6:zk T.1.ino f.xs with
    | false =>
     rw[c6]at hg;rw[Wp (hno c6)]at el;rw[el]at e;rw[e];refine fon Tryz.func48 ?_;dsimp only[Tryz.f48];push_cast [hll,c1'];refine cl h84 ?_;push_cast;push_cast [hll,hla,hlx,c3']
     repeat refine an ?_
     refine cl h110 ?_;push_cast;refine cl hsk ?_;push_cast [c5'];refine cl hg ?_;push_cast [c5'];refine cl hdi ?_;push_cast;exact dn (by push_cast [ze,zd,CLe,zf,O9,O8,Ol])
    | true =>
     rw[c6]at hg;by_cases c7:(zg T.1.ino f.xs).kind=3
     ·have c7':=eq_true c7;rw[Wo c7]at el;rw[el]at e;rw[e];refine fon Tryz.func48 ?_;dsimp only[Tryz.f48];push_cast [hll,c1'];refine cl h84 ?_;push_cast;push_cast [hll,hla,hlx,c3']
      repeat refine an ?_
      refine cl h110 ?_;push_cast;refine cl hsk ?_;push_cast [c5'];refine cl hg ?_;push_cast [c5',c7'];exact dn (by push_cast [ze,zd,CLe,zf,Bg,AY,O9,Oa])
     ·have c7':=WH c7;rw[Wp c7]at el;rw[el]at e;rw[e];refine fon Tryz.func48 ?_;dsimp only[Tryz.f48];push_cast [hll,c1'];refine cl h84 ?_;push_cast;push_cast [hll,hla,hlx,c3']
      repeat refine an ?_
      refine cl h110 ?_;push_cast;refine cl hsk ?_;push_cast [c5'];refine cl hg ?_;push_cast [c5',c7'];refine cl hdi ?_;push_cast;exact dn (by push_cast [ze,zd,CLe,zf,O9,O8,Ol])
   ·have c5':=WH c5;rw[Wp c5,O9,Oa]at el;rw[el]at e;rw[e];refine fon Tryz.func48 ?_;dsimp only[Tryz.f48];push_cast [hll,c1'];refine cl h84 ?_;push_cast;push_cast [hll,hla,hlx,c3']
    repeat refine an ?_
    refine cl h110 ?_;push_cast;refine cl hsk ?_;push_cast [c5'];refine cl hg ?_;push_cast [c5'];refine cl hdi ?_;push_cast;exact dn (by push_cast [ze,zd,CLe,zf,O9,O8,Ol])
  ·rw[Wp c4]at h110 el;rw[O9,Oa,Oa]at el;rw[el]at e;rw[e];refine fon Tryz.func48 ?_;dsimp only[Tryz.f48];push_cast [hll,c1'];refine cl h84 ?_;push_cast;push_cast [hll,hla,hlx,c3']
   repeat refine an ?_
   refine cl h110 ?_;push_cast;refine cl hdi ?_;push_cast;exact dn (by push_cast [ze,zd,CLe,zf,O9,O8,Ol])
 ·have c3':=WH c3;rw[Wp c3,Oa,Oa,Oa]at el;rw[el]at e;rw[e];refine fon Tryz.func48 ?_;dsimp only[Tryz.f48];push_cast [hll,c1'];refine cl h84 ?_;push_cast;push_cast [hll,hla,hlx,c3']
  repeat refine an ?_
  refine cl hdi ?_;push_cast;exact dn (by push_cast [ze,zd,CLe,zf,O9,O8,Ol])
end
section
open CA CB
open Go.RowKit
theorem QK (f:FsV) (hf:FsI f) (hr:FsR f) (hs:FsS f) (hd:HB f.xs) (b:Lz) (hb:b.length<=100000) (k:Int) (o:Lz) (ops:List Lz) (hn:ops.length<=1000) (hp:∀ x∈ops,x.length<=1000):Fun Tryz.prog G0 22 [.agg (fsC f),.str b,.agg (zbV k o ops)] (.tup [.sl 1 (zF ((zR f b k o ops).getD [])),.sc (.bool (zR f b k o ops).isSome)]) 0:=by
 have hll:(zF ops).length=ops.length:=We ..;have hin:=zjY f hf hr hs hd b hb k o ops hn hp;by_cases c1:ops.length=1
 ·have c1':=eq_true (show (ops.length:Int)=1 by omega);obtain ⟨p,rfl⟩:=BD.1 c1;have e:zR f b k o [p]=some [J7 p]:=rfl;have hba:=zal p (by have:=hp p Wk;omega);rw[e];refine fon Tryz.func22 ?_;dsimp only[Tryz.f22];push_cast [zF,Wm,Wv,Wg,Wz]
  repeat refine an ?_
  refine cl hba ?_;push_cast;exact dn (by push_cast [ze,zd,CLe,zf,W5,OQ,zF,Wm,Wv])
 have c1':=WH (show ¬(ops.length:Int)=1 by omega);cases c2:Hh f b k o ops with
 | true =>
  rw[c2]at hin;have e:zR f b k o ops=some (ops.dropLast.map fun p=>J0 (ops.getLastD []) (J7 p)):=by unfold zR;rw[if_neg c1,if_pos c2]
  have hn2:¬ops.length<2:=fun q=>by
   unfold Hh at c2;rw[Wo q]at c2;cases c2
  have hlg:=Yj (ops:=ops) (by omega);have hla:(zF ops)[ops.length-1]?=some [.str (ops.getLastD [])]:=by rw[Ws,hlg];rfl
  have hlx:((ops.length:Int)-1).toNat=ops.length-1:=by omega
  have hl2:(ops.getLastD []).length<=1000:=hp _ (Wf hlg);have hdl:ops.take (ops.length-1)=ops.dropLast:=List.dropLast_eq_take.symm;have hpd:∀ x∈ops.dropLast,x.length<=1000:=fun x hx=>hp x (BK _ hx);have hdn:ops.dropLast.length=ops.length-1:=List.length_dropLast;clear hlg hp;rw[e];generalize ops.getLastD []=z at *;generalize ops.dropLast=dl at *;have hdll:(zF dl).length=dl.length:=We ..;have hdc:((ops.length:Int)-1)=(dl.length:Int):=by omega
  refine fof (fun i=>if i=9 then [false,false,false,false,false,false,false,false,false,false,false,true] else []) Tryz.func22 ?_;dsimp only[Tryz.f22];push_cast [hll,c1'];refine cl hin ?_;push_cast;push_cast [hll,hlx,hdl,hdll]
  repeat refine an ?_
  push_cast [hll,hlx,hdl,hdll];refine loop (fun i:Nat=>⟨[(5,.ptr 1 0),(8,.sc (.int .i64 (ops.length:Nat))),(9,.own 0 9 1 (zF ((dl.take i).map fun p=>J0 z (J7 p)))),(33,.sl 1 (zF dl)),(34,.sc (.int .i64 (dl.length:Nat))),(35,.sc (.int .i64 i))],[[.any,.any,.any,.any],zbV k o ops],1,0⟩) (fun i=>i<=dl.length) (fun i=>dl.length-i) 0 (Wc _) ?_ ?_
  ·exact wks [.inr (9,1)] (h4:=by push_cast [ze,zd,CLe,zf,Oy,Wv,zF,hdl])
  intro i hi;by_cases hlt:i<dl.length
  ·have hlt':=eq_true (show (i:Int)<dl.length by omega);have hgi:(zF dl)[i]?=some [.str dl[i]]:=by simp[zF,hlt]
   have hx:=hpd _ (Wx hlt);have ht:zF ((dl.take (i+1)).map fun p=>J0 z (J7 p))=zF ((dl.take i).map fun p=>J0 z (J7 p))++[[.str (J0 z (J7 dl[i]))]]:=by
    rw[OV hlt,W9];exact W9
   generalize dl[i]=p at *;have hba:=zal p (by omega);have hbl:=GT p;have hj:=zem z (J7 p) (by omega) (by omega);have htl:(zF ((dl.take i).map fun p=>J0 z (J7 p))).length=i:=by simp[zF];omega
   push_cast [hlt',hgi,hll,hla,hlx,Oz]
   repeat refine an ?_
   refine cl hba ?_;push_cast [hll,hla,hlx]
   repeat refine an ?_
   refine cl hj ?_;push_cast [htl]
   repeat refine an ?_
   exact ⟨i+1,by omega,by omega,wks [.inl 0] (h4:=by push_cast [ze,zd,CLe,zf,ht])⟩
  ·have hlt':=WH (show ¬(i:Int)<dl.length by omega);have hil:i=dl.length:=by omega
   rw[hil]at hlt' ⊢;rw[Of];push_cast [hlt'];exact dn (by push_cast [ze,zd,CLe,zf,W5,OQ])
 | false =>
  rw[c2]at hin;by_cases c3:ops.length=2
  ·have c3':=eq_true (show (ops.length:Int)=2 by omega);have e:zR f b k o ops=some [ops.getLastD []]:=by unfold zR;rw[if_neg c1,if_neg (by rw[c2];decide),if_pos c3]
   have hlg:=Yj (ops:=ops) (by omega);have hla:(zF ops)[1]?=some [.str (ops.getLastD [])]:=by rw[Ws,show (1:Nat)=ops.length-1 by omega,hlg];rfl
   rw[e];refine fon Tryz.func22 ?_;dsimp only[Tryz.f22];push_cast [hll,c1'];refine cl hin ?_;push_cast [hll,c3',hla]
   repeat refine an ?_
   exact dn (by push_cast [ze,zd,CLe,zf,W5,OQ,zF,Wm,Wv])
  ·have c3':=WH (show ¬(ops.length:Int)=2 by omega);have e:zR f b k o ops=none:=by unfold zR;rw[if_neg c1,if_neg (by rw[c2];decide),if_neg c3]
   rw[e];refine fon Tryz.func22 ?_;dsimp only[Tryz.f22];push_cast [hll,c1'];refine cl hin ?_;push_cast [hll,c3'];exact dn (by push_cast [ze,zd,CLe,zf,ON,Aw,zF,Wv])
end
section
open CA CB
open Go.RowKit
theorem GrD.s {N:Nat} {d:qn} (h:GrD N d) (hN:N<=9000):za9 d:=h.b.s hN
theorem ul (u:Lz) (hu:u.length<=3000):Fun Tryz.prog G0 103 [.str u] (.sc (.int .i64 (Vr u))) 0:=by
 have hc:=Ve u (by omega);have hl:=WH (show ¬(4095:Int)<u.length by omega);rcases Od (u = []) with c | c
 ·have e:Vr u=1:=if_pos (Af c);rw[e];refine fon Tryz.func103 ?_;dsimp only[Tryz.f103];push_cast [c];exact dn
 ·cases hb:(u.any fun b=>decide (b=0)) with
  | true =>
   have e:Vr u=9:=by unfold Vr;rw[if_neg (O5 c),hb,if_pos rfl]
   rw[hb]at hc;rw[e];refine fon Tryz.func103 ?_;dsimp only[Tryz.f103];push_cast [c,hl];refine cl hc ?_;push_cast;exact dn
  | false =>
   have e:Vr u=0:=by unfold Vr;rw[if_neg (O5 c),hb,if_neg (by decide)]
   rw[hb]at hc;rw[e];refine fon Tryz.func103 ?_;dsimp only[Tryz.f103];push_cast [c,hl];refine cl hc ?_;push_cast;exact dn
theorem yn (k:Int) (o:Lz) (ops:List Lz) (x:zn):Fun Tryz.prog G0 59 [.agg (zbV k o ops),.agg (YB x)] (.sc (.int .i64 (Gg o x))) 0:=by
 have hh:=Nb k o (.sl 1 (zF ops)) 102 rfl;unfold Gg;by_cases c:(102:UInt8)∈o
 ·rw[Wo c]at hh;rw[if_pos c];rcases Od (x.kind=2) with c2 | c2
  ·rw[if_pos (Af c2)];refine fon Tryz.func59 ?_;dsimp only[Tryz.f59];push_cast;refine cl hh ?_;push_cast [c2];exact dn
  ·rw[if_neg (O5 c2)];refine fon Tryz.func59 ?_;dsimp only[Tryz.f59];push_cast;refine cl hh ?_;push_cast [c2];exact dn
 ·rw[Wp c]at hh;rw[if_neg c];refine fon Tryz.func59 ?_;dsimp only[Tryz.f59];push_cast;refine cl hh ?_;push_cast;exact dn
theorem xe (t:zO) (v:Lz) (hv:v.length<=3000) (ht:t.name.length<=100000):Fun Tryz.prog G0 60 [.agg (jL t),.str v] (.sc (.int .i64 (H6 t v))) 0:=by
 have hre:Fun Tryz.prog G0 107 [.str v] (.agg [qM (Hy v),.own 0 9 1 (zF (zm v)),qM (ja v)]) 1:=UK v (by omega);have hma:=v8 t.name (by omega);unfold H6;cases c:ja v with
 | true =>
  rw[c]at hre;rw[if_pos rfl];refine fon Tryz.func60 ?_;dsimp only[Tryz.f60];push_cast;refine cl hre ?_;push_cast;exact dn
 | false =>
  rw[c]at hre;rw[if_neg (by decide)];cases m:may t.name with
  | true =>
   rw[m]at hma;rw[if_pos rfl];refine fon Tryz.func60 ?_;dsimp only[Tryz.f60];push_cast;refine cl hre ?_;push_cast;refine cl hma ?_;push_cast;exact dn
  | false =>
   rw[m]at hma;rw[if_neg (by decide)];refine fon Tryz.func60 ?_;dsimp only[Tryz.f60];push_cast;refine cl hre ?_;push_cast;refine cl hma ?_;push_cast;exact dn
theorem Gs (f:FsV) (hi:FsI f) (hr:FsR f) (hs:FsS f) (hd:HB f.xs) (b:Lz) (hb:b.length<=100000) (soft:Bool) (u:Lz) (hu:u.length<=3000):Fun Tryz.prog G0 56 [.agg (fsC f),.str b,.sc (.bool soft),.str u] (.tup [.agg (jL (JX f b soft u).1),.sc (.int .i64 (JX f b soft u).2.1),.sc (.int .i64 (JX f b soft u).2.2)]) 0:=by
 have htg:=ul u hu;have hsk:=Qu f hi hr hs hd b u false hb hu;have hg:=jp (G:=G0) f (zx f b u false).1.ino (by have:=hs.len;omega) hi.rises;cases soft with
 | true =>
  have e:JX f b true u=(qk,8,Vr u):=rfl;rw[e];refine fon Tryz.func56 ?_;dsimp only[Tryz.f56];push_cast;refine cl htg ?_;push_cast;exact dn (by push_cast [ze,zd,CLe,zf,qk])
 | false =>
  have e:JX f b false u=if (zx f b u false).2≠0 then ((zx f b u false).1,5,(zx f b u false).2)
   else if zk (zx f b u false).1.ino f.xs=false then ((zx f b u false).1,5,1)
   else if (zg (zx f b u false).1.ino f.xs).kind=2 then ((zx f b u false).1,6,4)
   else ((zx f b u false).1,0,0):=rfl
  rw[e];clear e;generalize zx f b u false=A at *;generalize zg A.1.ino f.xs=X at *;rcases Od (A.2=0) with c | c
  case inr =>
   rw[if_pos (O5 c)];refine fon Tryz.func56 ?_;dsimp only[Tryz.f56];push_cast;refine cl hsk ?_;push_cast [c];refine cl hg ?_;push_cast [c];exact dn
  rw[if_neg (fun q=>q (Af c))];cases h2:zk A.1.ino f.xs with
  | false =>
   rw[h2]at hg;rw[if_pos rfl];refine fon Tryz.func56 ?_;dsimp only[Tryz.f56];push_cast;refine cl hsk ?_;push_cast [c];refine cl hg ?_;push_cast [c];exact dn
  | true =>
   rw[h2]at hg;rw[if_neg (by decide)];rcases Od (X.kind=2) with c3 | c3
   ·rw[if_pos (Af c3)];refine fon Tryz.func56 ?_;dsimp only[Tryz.f56];push_cast;refine cl hsk ?_;push_cast [c];refine cl hg ?_;push_cast [c,c3];exact dn
   ·rw[if_neg (O5 c3)];refine fon Tryz.func56 ?_;dsimp only[Tryz.f56];push_cast;refine cl hsk ?_;push_cast [c];refine cl hg ?_;push_cast [c,c3];exact dn
theorem ziE (hok:okM f) (hi:FsI f) (hr:FsR f) {m:Int} (hk:(zg m f.xs).kind=2):(zg (zg m f.xs).parent f.xs).kind=2:=by
 obtain ⟨ns,_,_,hl⟩:=zi5 hok (Ye hk) hk;rcases hl.inv with ⟨_,rfl⟩ | ⟨ms,z,m2,e,h1,h2,h3,h4⟩
 ·have g:=zi (Ye hk);rw[(hr.node _ g.2.1).top g.2.2];exact hk
 ·obtain ⟨rk,hed⟩:=hr.edge;have gz:=zi h2;have hp:=(hed _ gz.2.1 _ (ql h4).2 hk).1;rw[gz.2.2]at hp;have hp:(zg m f.xs).parent=z:=hp;rw[hp];exact h3
theorem MW (hok:okM f) (hi:FsI f) (hr:FsR f) {b p:Lz} {w:Bool} (h:(zx f b p w).2=0) (hh:zk (zx f b p w).1.ino f.xs=true) (hk:(zg (zx f b p w).1.ino f.xs).kind≠2):(zx f b p w).1.name≠[]:=fun hn=>by
 have z0:zk (0:Int) f.xs=false:=by
  cases hq:zk (0:Int) f.xs with
  | false=>rfl
  | true=>exact absurd rfl (Uh hi hq)
 have:=zaL (P:=fun s=>s.name = []->(zg s.ino f.xs).kind=2∨zk s.ino f.xs=false) (Q:=fun m=>(zg m f.xs).kind=2) (fun m q _=>.inl q) (qJ hok).2.1.2.2.2.2.2.2.2.2 (fun m hm=>⟨hm,ziE hok hi hr hm⟩) (fun m n hm hn=>by
  have hn:n = []:=hn;subst hn
  right
  show zk (zP [] (zg m f.xs).es) f.xs=false;unfold zP;cases hz:jO z6.name [] (zg m f.xs).es with
  | none=>exact z0
  | some e =>
   have:=ql hz;have g:=zi (Ye hm);have:=(Ux ((hr.node _ g.2.1).nam e this.2)).1;exact absurd (ql hz).1 this) h hn
 rcases this with q | q
 ·exact hk q
 ·rw[hh]at q;cases q
end
section
open CA CB
open Go.RowKit
theorem Xi (d:qn) (hd:d.diags.length<=80000) (k:Int) (o:Lz) (ops:List Lz) (u v:Lz) (hu:u.length<=3000) (hv:v.length<=3000) (w e:Int):yc Tryz.prog GD 55 [.sc (.int .i64 w),.sc (.int .i64 e),.ptr 0 0,.ptr 1 0,.ptr 2 0,.ptr 3 0] [zo8 d,zbV k o ops,[.str u],[.str v]] 0 (.tup []) [zo8 (qN d (Jf k w u v e)),zbV k o ops,[.str u],[.str v]] 0:=by
 have h:=zhb d hd k w u v e hu hv;refine foB (fun _=>[]) Tryz.func55 ?_;dsimp only[Tryz.f55];push_cast;refine cl h ?_;push_cast;exact ⟨[],rfl,rfl,by push_cast [ze,zd,CLe,zf],by push_cast [ze,zd,CLe,zf]⟩
theorem zdT (hok:okM f) (hi:FsI f) (hr:FsR f) {b o v:Lz} (q:Zd f b o v=0):Fun Tryz.prog GD 61 [.agg (fsC f),.agg (jL (zx f b v false).1)] (.str (zE f (zx f b v false).1)) 0/\(zE f (zx f b v false).1).length<=990000:=by
 obtain ⟨w1,w2,w3⟩:=zig q;have gT:=xc w1;have hn:(zx f b v false).1.name≠[]:=by
  cases hq:zk (zx f b v false).1.ino f.xs with
  | true=>exact MW hok hi hr w1 hq (w2 hq)
  | false=>exact (Ux (w3 hq)).1
 have hm:may (zx f b v false).1.name=true:=by
  cases hq:zk (zx f b v false).1.ino f.xs with
  | true=>exact kP hr (Gt gT hi hq hn)
  | false=>exact w3 hq
 obtain ⟨g1,g2,_⟩:=gT.resolve_left hn;exact ⟨(xb f hok _ g1 g2 hm).g0,zbk hok g1 g2 hm⟩
theorem zpk (hok:okM f) (hi:FsI f) (hr:FsR f) {b u:Lz} (q:(JX f b false u).2.2=0):Fun Tryz.prog GD 61 [.agg (fsC f),.agg (jL (JX f b false u).1)] (.str (zE f (JX f b false u).1)) 0/\(zE f (JX f b false u).1).length<=990000:=by
 obtain ⟨s1,s2,s3,s4⟩:=zaM q;rw[s1];have ha:=Gt (xc s2) hi s3 (MW hok hi hr s2 s3 s4);exact ⟨(xb f hok _ ha.has ha.kind (kP hr ha)).g0,zbk hok ha.has ha.kind (kP hr ha)⟩
theorem kA (k:Int) (b o:Lz) (ops:List Lz) {N:Nat} {d:qn} (h:GrD N d) (hN:N+3*ops.length+3<=2000) (hb:b.length<=1000) (hp:∀ x∈ops,x.length<=1000) (h1:0<ops.length):Fun Tryz.prog GD 24 [Mp d,.str b,.agg (zbV k o ops)] (Mp (zjU k b o ops d)) 0:=by
 have hll:(zF ops).length=ops.length:=We ..;have hS:=(h.s (by omega)).ws.fs;have hpl:=(QK d.w.fs h.b.wi.fs h.r.fs hS h.dat b (by omega) k o ops (by omega) hp).g0 (G':=GD);have e:zjU k b o ops d=match zR d.w.fs b k o ops with | none=>qN d (Jf k 10 (ops.getLastD []) [] 0) | some ps=>zbQ k b o (ops.zip ps) d:=rfl
 cases hP:zR d.w.fs b k o ops with
 | none =>
  rw[hP]at hpl e;simp only[ON,Aw]at hpl;have hlg:=Yj h1;have hla:(zF ops)[ops.length-1]?=some [.str (ops.getLastD [])]:=by rw[Ws,hlg];rfl
  have hlx:((ops.length:Int)-1).toNat=ops.length-1:=by omega
  have hl2:(ops.getLastD []).length<=1000:=hp _ (Wf hlg);have ht:=zhb d (by have:=h.b.diags;omega) k 10 (ops.getLastD []) [] 0 (by omega) (Wc _);rw[e];refine fof (fun i=>if i=4 then [false,false,false,false,false,false,false,false,false,false,true] else if i=11 then Ga 8 10 9 11 else []) Tryz.func24 ?_;dsimp only[Tryz.f24];push_cast [hll];refine cl hpl ?_;push_cast [hll,hla,hlx]
  repeat refine an ?_
  refine cl ht ?_;push_cast;exact dn (by push_cast [ze,zd,CLe,zf,qN])
 | some ps =>
  rw[hP]at hpl e;simp only[W5,OQ]at hpl;obtain ⟨p1,p2⟩:=GJ hP hp;have hpsl:(zF ps).length=ps.length:=We ..;have hz:(ops.zip ps).length=ps.length:=by rw[List.length_zip];omega
  have e:zjU k b o ops d=zbQ k b o (ops.zip ps) d:=e;rw[e];have hh:=(Nb k o (.sl 1 (zF ops)) 115 rfl).g0 (G':=GD);have hone:∀ D u v,Us k b o D u v=if (JX D.w.fs b (decide ((115:UInt8)∈o)) u).2.2≠0 then qN D (Jf k (JX D.w.fs b (decide ((115:UInt8)∈o)) u).2.1 u v (JX D.w.fs b (decide ((115:UInt8)∈o)) u).2.2)
   else if Zd D.w.fs b o v≠0 then qN D (Jf k (if decide ((115:UInt8)∈o) then 8 else 7) u v (Zd D.w.fs b o v))
   else if zk (zx D.w.fs b v false).1.ino D.w.fs.xs=true/\decide ((115:UInt8)∈o)=false/\(JX D.w.fs b (decide ((115:UInt8)∈o)) u).1.ino=(zx D.w.fs b v false).1.ino then qN D (Jf k 9 u v 0)
   else zru k (decide ((115:UInt8)∈o)) D (JX D.w.fs b (decide ((115:UInt8)∈o)) u).1 (zx D.w.fs b v false).1 u v:=fun _ _ _=>rfl
  generalize hSo:decide ((115:UInt8)∈o)=S at hh hone;cases S
  all_goals
   refine fof (fun i=>if i=4 then [false,false,false,false,false,false,false,false,false,false,true] else if i=11 then Ga 8 10 9 11 else []) Tryz.func24 ?_;dsimp only[Tryz.f24];push_cast [hll];refine cl hpl ?_;push_cast [hpsl];refine cl hh ?_;push_cast [hpsl]
  ·refine loop (fun q:Nat×qn=>⟨[(1,.str b),(3,.ptr 0 0),(5,.ptr 1 0),(6,.ptr 2 0),(10,.sc (.bool false)),(11,.sc (.int .i64 7)),(52,.sl 1 (zF ps)),(53,.sc (.int .i64 (ps.length:Nat))),(54,.sc (.int .i64 q.1))],[zo8 q.2,zbV k o ops,GC],0,0⟩) (fun q=>q.1<=ps.length/\q.2=zbQ k b o ((ops.zip ps).take q.1) d/\GrD (N+3*q.1) q.2) (fun q=>ps.length-q.1) (0,d) ⟨Wc _,rfl,h⟩ ?_ ?_
   ·exact wk (h4:=by push_cast [ze,zd,CLe,zf,hpsl])
   rintro ⟨i,D⟩ ⟨i1,i2,i3⟩;dsimp only at i1 i2 i3;by_cases hi:i<ps.length
   case neg =>
    have hil:i=ps.length:=by omega
    have hi':=WH (show ¬(i:Int)<ps.length by omega);rw[hil,←hz,Of]at i2;push_cast [hi'];rw[←i2];exact dn
   have hi':=eq_true (show (i:Int)<ps.length by omega);have hio:i<ops.length:=by omega
   have hgp:(zF ps)[i]?=some [.str ps[i]]:=by simp[zF,hi]
   have hgo:(zF ops)[i]?=some [.str ops[i]]:=by simp[zF,hio]
   have hlp:=p2 _ (Wx hi);have hlo:=hp _ (Wx hio);have hst:Us k b o D ops[i] ps[i]=zbQ k b o ((ops.zip ps).take (i+1)) d:=by
    have hzi:i<(ops.zip ps).length:=by omega
    rw[OV hzi];unfold zbQ;rw[BC];show Us k b o D ops[i] ps[i]=Us k b o (zbQ k b o ((ops.zip ps).take i) d) (ops.zip ps)[i].1 (ops.zip ps)[i].2;rw[←i2,List.getElem_zip]
   have hG:=zhx i3 k b o ops[i] ps[i] hlo;have eo:=hone D ops[i] ps[i];generalize ops[i]=u at *;generalize ps[i]=v at *;generalize hOne:Us k b o D u v=D2 at *;have hwf:=i3.b.wi.fs;have hrf:=i3.r.fs;have hok:=i3.ok (by omega);have hds:=i3.s (by omega);have hS':=hds.ws.fs;have hdl:D.diags.length<=80000:=by have:=i3.b.diags;omega
   have htl:=Xi D hdl k o ops u v (by omega) (by omega);have hsk:=(Qu D.w.fs hwf hrf hS' i3.dat b v false (by omega) (by omega)).g0 (G':=GD);have hgt:=jp (G:=GD) D.w.fs (zx D.w.fs b v false).1.ino (by have:=hS'.len;omega) hwf.rises;have htk:=(yn k o ops (zg (zx D.w.fs b v false).1.ino D.w.fs.xs)).g0 (G':=GD);have hfr:=(xe (zx D.w.fs b v false).1 v (by omega) (H7 hS' b v false (by omega))).g0 (G':=GD);have eW:Zd D.w.fs b o v=if (zx D.w.fs b v false).2≠0 then (zx D.w.fs b v false).2 else if zk (zx D.w.fs b v false).1.ino D.w.fs.xs then Gg o (zg (zx D.w.fs b v false).1.ino D.w.fs.xs) else H6 (zx D.w.fs b v false).1 v:=rfl;have hpb:=zdT (b:=b) (o:=o) (v:=v) hok hwf hrf;have hst1:=zfy i3 (zx D.w.fs b v false).1;have hfin:∀ D3,D2=D3->D3=zbQ k b o ((ops.zip ps).take (i+1)) d/\GrD (N+3*(i+1)) D3:=fun D3 q=>by
    rw[←q];exact ⟨hst,by rw[show N+3*(i+1)=N+3*i+3 by omega];exact hG⟩
   clear hst hG hOne;have hsrc:=(Gs D.w.fs hwf hrf hS' i3.dat b (by omega) false u (by omega)).g0 (G':=GD);have hso:=zaM (f:=D.w.fs) (b:=b) (u:=u);have hpa:=zpk (b:=b) (u:=u) hok hwf hrf;have eo:D2=if (JX D.w.fs b false u).2.2≠0 then qN D (Jf k (JX D.w.fs b false u).2.1 u v (JX D.w.fs b false u).2.2) else if Zd D.w.fs b o v≠0 then qN D (Jf k 7 u v (Zd D.w.fs b o v)) else if zk (zx D.w.fs b v false).1.ino D.w.fs.xs=true/\(JX D.w.fs b false u).1.ino=(zx D.w.fs b v false).1.ino then qN D (Jf k 9 u v 0) else zru k false D (JX D.w.fs b false u).1 (zx D.w.fs b v false).1 u v:=by
    rw[eo];simp only[WN,W2,true_and]
   generalize JX D.w.fs b false u=s at *;obtain ⟨sa,fw,sw⟩:=s;dsimp only at hsrc hpa eo;generalize Zd D.w.fs b o v=wy at *;generalize hTT:zx D.w.fs b v false=T at *;generalize hYY:zg T.1.ino D.w.fs.xs=Y at *;push_cast [hi',hgp,hgo,hll,hpsl,Oz]
   repeat refine an ?_
   push_cast [hi',hgp,hgo,hll,hpsl,Oz]
   repeat refine an ?_
   rcases Od (sw=0) with c1 | c1
   case inr =>
    rw[if_pos (O5 c1)]at eo;refine cl hsrc ?_;push_cast [c1];refine Xp [0,1,5,3] [] (htl fw sw) rfl (by decide) (by decide) (by simp) (by push_cast) (by push_cast) ?_;push_cast
    repeat refine an ?_
    exact ⟨(i+1,_),⟨by dsimp only;omega,hfin _ eo⟩,by dsimp only;omega,wk (h5:=by push_cast [ze,zd,CLe,zf,qN])⟩
   rw[if_neg (fun q=>q (Af c1))]at eo;rcases Od (T.2=0) with c2 | c2
   case inr =>
    rw[if_pos (O5 c2)]at eW;subst eW;rw[if_pos (O5 c2)]at eo;refine cl hsrc ?_;push_cast [c1];refine cl hsk ?_;push_cast [c2];refine cl hgt ?_;push_cast [c2];refine Xp [0,1,5,3] [] (htl 7 T.2) rfl (by decide) (by decide) (by simp) (by push_cast) (by push_cast) ?_;push_cast
    repeat refine an ?_
    exact ⟨(i+1,_),⟨by dsimp only;omega,hfin _ eo⟩,by dsimp only;omega,wk (h5:=by push_cast [ze,zd,CLe,zf,qN])⟩
   rw[if_neg (fun q=>q (Af c2))]at eW;rcases Od (wy=0) with c3 | c3
   case inr =>
    rw[if_pos (O5 c3)]at eo;cases hT:zk T.1.ino D.w.fs.xs with
    | true =>
     rw[hT]at hgt eW;simp only[WN,W2,if_true]at eW;rw[←eW]at htk;refine cl hsrc ?_;push_cast [c1];refine cl hsk ?_;push_cast [c2];refine cl hgt ?_;push_cast [c2];refine cl htk ?_;push_cast [c3];refine Xp [0,1,5,3] [] (htl 7 wy) rfl (by decide) (by decide) (by simp) (by push_cast) (by push_cast) ?_;push_cast
     repeat refine an ?_
     exact ⟨(i+1,_),⟨by dsimp only;omega,hfin _ eo⟩,by dsimp only;omega,wk (h5:=by push_cast [ze,zd,CLe,zf,qN])⟩
    | false =>
     rw[hT]at hgt eW;simp only[WN,W2,if_true]at eW;rw[←eW]at hfr;refine cl hsrc ?_;push_cast [c1];refine cl hsk ?_;push_cast [c2];refine cl hgt ?_;push_cast [c2];refine cl hfr ?_;push_cast [c3];refine Xp [0,1,5,3] [] (htl 7 wy) rfl (by decide) (by decide) (by simp) (by push_cast) (by push_cast) ?_;push_cast
     repeat refine an ?_
     exact ⟨(i+1,_),⟨by dsimp only;omega,hfin _ eo⟩,by dsimp only;omega,wk (h5:=by push_cast [ze,zd,CLe,zf,qN])⟩
   rw[if_neg (fun q=>q (Af c3))]at eo;have hpb:=hpb (Af c3);have hpl1:=hpb.2;cases hT:zk T.1.ino D.w.fs.xs with
   | true =>
    rw[hT]at hgt eW;simp only[WN,W2,if_true]at eW;rw[←eW]at htk;have hpa:=hpa (Af c1);rcases Od (sa.ino=T.1.ino) with c4 | c4
    case inl =>
     rw[if_pos ⟨hT,Af c4⟩]at eo;refine cl hsrc ?_;push_cast [c1];refine cl hsk ?_;push_cast [c2];refine cl hgt ?_;push_cast [c2];refine cl htk ?_;push_cast [c3];refine cl (hpb.1) ?_;push_cast [c4];refine Xp [0,1,5,3] [] (htl 9 0) rfl (by decide) (by decide) (by simp) (by push_cast) (by push_cast) ?_;push_cast
     repeat refine an ?_
     exact ⟨(i+1,_),⟨by dsimp only;omega,hfin _ eo⟩,by dsimp only;omega,wk (h5:=by push_cast [ze,zd,CLe,zf,qN])⟩
    rw[if_neg (fun q=>O5 c4 q.2)]at eo;have e1:Zu D T.1=(J9 D (zaF (zE D.w.fs T.1))).1:=by unfold Zu;rw[hT];rfl
    have hsh:=zls D hds (zE D.w.fs T.1) (by omega);rw[e1]at hst1;have e2:D2=if (J9 (Zu D T.1) (Qk (zE D.w.fs sa) (zE D.w.fs T.1))).2≠0 then qN (J9 (Zu D T.1) (Qk (zE D.w.fs sa) (zE D.w.fs T.1))).1 (Jf k 7 u v (J9 (Zu D T.1) (Qk (zE D.w.fs sa) (zE D.w.fs T.1))).2) else (J9 (Zu D T.1) (Qk (zE D.w.fs sa) (zE D.w.fs T.1))).1:=eo;rw[e1]at e2;clear eo e1;generalize (J9 D (zaF (zE D.w.fs T.1))).1=D1 at *;have hd1:=hst1.s (by omega);have hgr:GrD (N+3*i+1+1) (J9 D1 (Qk (zE D.w.fs sa) (zE D.w.fs T.1))).1:=hst1.add (by exact Wc _) (by show ¬(5:Int)=3;decide);have hop:=zak D1 hd1 5 (by decide) (by decide) (zE D.w.fs sa) (zE D.w.fs T.1) [] (zg0 D1.w hd1.wi hd1.ws (zE D.w.fs sa) (zE D.w.fs T.1) (by have:=hpa.2;omega) (by omega));rw[show (Qk (zE D.w.fs sa) (zE D.w.fs T.1))=⟨5,0,zE D.w.fs sa,zE D.w.fs T.1,[]⟩ from rfl]at e2 hgr;generalize hAA:J9 D1 ⟨5,0,zE D.w.fs sa,zE D.w.fs T.1,[]⟩=A at *;have htl2:=Xi A.1 (by have:=hgr.b.diags;omega) k o ops u v (by omega) (by omega);unfold opL at hop hsh;simp only[zaF]at hsh;rcases Od (A.2=0) with c5 | c5
    ·rw[if_neg (fun q=>q (Af c5))]at e2;refine cl hsrc ?_;push_cast [c1];refine cl hsk ?_;push_cast [c2];refine cl hgt ?_;push_cast [c2];refine cl htk ?_;push_cast [c3];refine cl (hpb.1) ?_;push_cast [c4];refine cl hsh ?_;push_cast;refine cl (hpa.1) ?_;push_cast;refine cl hop ?_;push_cast [c5]
     repeat refine an ?_
     exact ⟨(i+1,_),⟨by dsimp only;omega,hfin _ e2⟩,by dsimp only;omega,wk (h5:=by push_cast [ze,zd,CLe,zf,qN])⟩
    ·rw[if_pos (O5 c5)]at e2;refine cl hsrc ?_;push_cast [c1];refine cl hsk ?_;push_cast [c2];refine cl hgt ?_;push_cast [c2];refine cl htk ?_;push_cast [c3];refine cl (hpb.1) ?_;push_cast [c4];refine cl hsh ?_;push_cast;refine cl (hpa.1) ?_;push_cast;refine cl hop ?_;push_cast [c5];refine Xp [0,1,5,3] [] (htl2 7 A.2) rfl (by decide) (by decide) (by simp) (by push_cast) (by push_cast) ?_;push_cast
     repeat refine an ?_
     exact ⟨(i+1,_),⟨by dsimp only;omega,hfin _ e2⟩,by dsimp only;omega,wk (h5:=by push_cast [ze,zd,CLe,zf,qN])⟩
   | false =>
    rw[hT]at hgt eW;simp only[WN,W2,if_true]at eW;rw[←eW]at hfr;have hpa:=hpa (Af c1);rw[if_neg (fun q=>by rw[hT]at q;cases q.1)]at eo;have e1:Zu D T.1=D:=by unfold Zu;rw[hT];rfl
    rw[e1]at hst1;have e2:D2=if (J9 (Zu D T.1) (Qk (zE D.w.fs sa) (zE D.w.fs T.1))).2≠0 then qN (J9 (Zu D T.1) (Qk (zE D.w.fs sa) (zE D.w.fs T.1))).1 (Jf k 7 u v (J9 (Zu D T.1) (Qk (zE D.w.fs sa) (zE D.w.fs T.1))).2) else (J9 (Zu D T.1) (Qk (zE D.w.fs sa) (zE D.w.fs T.1))).1:=eo;rw[e1]at e2;clear eo e1;have hd1:=hst1.s (by omega);have hgr:GrD (N+3*i+1+1) (J9 D (Qk (zE D.w.fs sa) (zE D.w.fs T.1))).1:=hst1.add (by exact Wc _) (by show ¬(5:Int)=3;decide);have hop:=zak D hd1 5 (by decide) (by decide) (zE D.w.fs sa) (zE D.w.fs T.1) [] (zg0 D.w hd1.wi hd1.ws (zE D.w.fs sa) (zE D.w.fs T.1) (by have:=hpa.2;omega) (by omega));rw[show (Qk (zE D.w.fs sa) (zE D.w.fs T.1))=⟨5,0,zE D.w.fs sa,zE D.w.fs T.1,[]⟩ from rfl]at e2 hgr;generalize hAA:J9 D ⟨5,0,zE D.w.fs sa,zE D.w.fs T.1,[]⟩=A at *;have htl2:=Xi A.1 (by have:=hgr.b.diags;omega) k o ops u v (by omega) (by omega);unfold opL at hop;rcases Od (A.2=0) with c5 | c5
    ·rw[if_neg (fun q=>q (Af c5))]at e2;refine cl hsrc ?_;push_cast [c1];refine cl hsk ?_;push_cast [c2];refine cl hgt ?_;push_cast [c2];refine cl hfr ?_;push_cast [c3];refine cl (hpb.1) ?_;push_cast;refine cl (hpa.1) ?_;push_cast;refine cl hop ?_;push_cast [c5]
     repeat refine an ?_
     exact ⟨(i+1,_),⟨by dsimp only;omega,hfin _ e2⟩,by dsimp only;omega,wk (h5:=by push_cast [ze,zd,CLe,zf,qN])⟩
    ·rw[if_pos (O5 c5)]at e2;refine cl hsrc ?_;push_cast [c1];refine cl hsk ?_;push_cast [c2];refine cl hgt ?_;push_cast [c2];refine cl hfr ?_;push_cast [c3];refine cl (hpb.1) ?_;push_cast;refine cl (hpa.1) ?_;push_cast;refine cl hop ?_;push_cast [c5];refine Xp [0,1,5,3] [] (htl2 7 A.2) rfl (by decide) (by decide) (by simp) (by push_cast) (by push_cast) ?_;push_cast
     repeat refine an ?_
     exact ⟨(i+1,_),⟨by dsimp only;omega,hfin _ e2⟩,by dsimp only;omega,wk (h5:=by push_cast [ze,zd,CLe,zf,qN])⟩
  ·refine loop (fun q:Nat×qn=>⟨[(1,.str b),(3,.ptr 0 0),(5,.ptr 1 0),(6,.ptr 2 0),(10,.sc (.bool true)),(11,.sc (.int .i64 8)),(52,.sl 1 (zF ps)),(53,.sc (.int .i64 (ps.length:Nat))),(54,.sc (.int .i64 q.1))],[zo8 q.2,zbV k o ops,GC],0,0⟩) (fun q=>q.1<=ps.length/\q.2=zbQ k b o ((ops.zip ps).take q.1) d/\GrD (N+3*q.1) q.2) (fun q=>ps.length-q.1) (0,d) ⟨Wc _,rfl,h⟩ ?_ ?_
   ·exact wk (h4:=by push_cast [ze,zd,CLe,zf,hpsl])
   rintro ⟨i,D⟩ ⟨i1,i2,i3⟩;dsimp only at i1 i2 i3;by_cases hi:i<ps.length
   case neg =>
    have hil:i=ps.length:=by omega
    have hi':=WH (show ¬(i:Int)<ps.length by omega);rw[hil,←hz,Of]at i2;push_cast [hi'];rw[←i2];exact dn
   have hi':=eq_true (show (i:Int)<ps.length by omega);have hio:i<ops.length:=by omega
   have hgp:(zF ps)[i]?=some [.str ps[i]]:=by simp[zF,hi]
   have hgo:(zF ops)[i]?=some [.str ops[i]]:=by simp[zF,hio]
   have hlp:=p2 _ (Wx hi);have hlo:=hp _ (Wx hio);have hst:Us k b o D ops[i] ps[i]=zbQ k b o ((ops.zip ps).take (i+1)) d:=by
    have hzi:i<(ops.zip ps).length:=by omega
    rw[OV hzi];unfold zbQ;rw[BC];show Us k b o D ops[i] ps[i]=Us k b o (zbQ k b o ((ops.zip ps).take i) d) (ops.zip ps)[i].1 (ops.zip ps)[i].2;rw[←i2,List.getElem_zip]
   have hG:=zhx i3 k b o ops[i] ps[i] hlo;have eo:=hone D ops[i] ps[i];generalize ops[i]=u at *;generalize ps[i]=v at *;generalize hOne:Us k b o D u v=D2 at *;have hwf:=i3.b.wi.fs;have hrf:=i3.r.fs;have hok:=i3.ok (by omega);have hds:=i3.s (by omega);have hS':=hds.ws.fs;have hdl:D.diags.length<=80000:=by have:=i3.b.diags;omega
   have htl:=Xi D hdl k o ops u v (by omega) (by omega);have hsk:=(Qu D.w.fs hwf hrf hS' i3.dat b v false (by omega) (by omega)).g0 (G':=GD);have hgt:=jp (G:=GD) D.w.fs (zx D.w.fs b v false).1.ino (by have:=hS'.len;omega) hwf.rises;have htk:=(yn k o ops (zg (zx D.w.fs b v false).1.ino D.w.fs.xs)).g0 (G':=GD);have hfr:=(xe (zx D.w.fs b v false).1 v (by omega) (H7 hS' b v false (by omega))).g0 (G':=GD);have eW:Zd D.w.fs b o v=if (zx D.w.fs b v false).2≠0 then (zx D.w.fs b v false).2 else if zk (zx D.w.fs b v false).1.ino D.w.fs.xs then Gg o (zg (zx D.w.fs b v false).1.ino D.w.fs.xs) else H6 (zx D.w.fs b v false).1 v:=rfl;have hpb:=zdT (b:=b) (o:=o) (v:=v) hok hwf hrf;have hst1:=zfy i3 (zx D.w.fs b v false).1;have hfin:∀ D3,D2=D3->D3=zbQ k b o ((ops.zip ps).take (i+1)) d/\GrD (N+3*(i+1)) D3:=fun D3 q=>by
    rw[←q];exact ⟨hst,by rw[show N+3*(i+1)=N+3*i+3 by omega];exact hG⟩
   clear hst hG hOne;have hsrc:Fun Tryz.prog GD 56 [.agg (fsC D.w.fs),.str b,.sc (.bool true),.str u] (.tup [.agg (jL qk),.sc (.int .i64 8),.sc (.int .i64 (Vr u))]) 0:=(Gs D.w.fs hwf hrf hS' i3.dat b (by omega) true u (by omega)).g0;have eo:D2=if Vr u≠0 then qN D (Jf k 8 u v (Vr u)) else if Zd D.w.fs b o v≠0 then qN D (Jf k 8 u v (Zd D.w.fs b o v)) else zru k true D qk (zx D.w.fs b v false).1 u v:=by
    rw[eo];show (if Vr u≠0 then _ else _)=_;simp only[if_true,Bool.true_eq_false,AG,and_false,W2]
    rfl
   generalize Vr u=sw at *;obtain ⟨sa,hsa⟩:∃ s,s=qk:=⟨_,rfl⟩;rw[←hsa]at eo hsrc;generalize Zd D.w.fs b o v=wy at *;generalize hTT:zx D.w.fs b v false=T at *;generalize hYY:zg T.1.ino D.w.fs.xs=Y at *;push_cast [hi',hgp,hgo,hll,hpsl,Oz]
   repeat refine an ?_
   push_cast [hi',hgp,hgo,hll,hpsl,Oz]
   repeat refine an ?_
   rcases Od (sw=0) with c1 | c1
   case inr =>
    rw[if_pos (O5 c1)]at eo;refine cl hsrc ?_;push_cast [c1];refine Xp [0,1,5,3] [] (htl 8 sw) rfl (by decide) (by decide) (by simp) (by push_cast) (by push_cast) ?_;push_cast
    repeat refine an ?_
    exact ⟨(i+1,_),⟨by dsimp only;omega,hfin _ eo⟩,by dsimp only;omega,wk (h5:=by push_cast [ze,zd,CLe,zf,qN])⟩
   rw[if_neg (fun q=>q (Af c1))]at eo;rcases Od (T.2=0) with c2 | c2
   case inr =>
    rw[if_pos (O5 c2)]at eW;subst eW;rw[if_pos (O5 c2)]at eo;refine cl hsrc ?_;push_cast [c1];refine cl hsk ?_;push_cast [c2];refine cl hgt ?_;push_cast [c2];refine Xp [0,1,5,3] [] (htl 8 T.2) rfl (by decide) (by decide) (by simp) (by push_cast) (by push_cast) ?_;push_cast
    repeat refine an ?_
    exact ⟨(i+1,_),⟨by dsimp only;omega,hfin _ eo⟩,by dsimp only;omega,wk (h5:=by push_cast [ze,zd,CLe,zf,qN])⟩
   rw[if_neg (fun q=>q (Af c2))]at eW;rcases Od (wy=0) with c3 | c3
   case inr =>
    rw[if_pos (O5 c3)]at eo;cases hT:zk T.1.ino D.w.fs.xs with
    | true =>
     rw[hT]at hgt eW;simp only[WN,W2,if_true]at eW;rw[←eW]at htk;refine cl hsrc ?_;push_cast [c1];refine cl hsk ?_;push_cast [c2];refine cl hgt ?_;push_cast [c2];refine cl htk ?_;push_cast [c3];refine Xp [0,1,5,3] [] (htl 8 wy) rfl (by decide) (by decide) (by simp) (by push_cast) (by push_cast) ?_;push_cast
     repeat refine an ?_
     exact ⟨(i+1,_),⟨by dsimp only;omega,hfin _ eo⟩,by dsimp only;omega,wk (h5:=by push_cast [ze,zd,CLe,zf,qN])⟩
    | false =>
     rw[hT]at hgt eW;simp only[WN,W2,if_true]at eW;rw[←eW]at hfr;refine cl hsrc ?_;push_cast [c1];refine cl hsk ?_;push_cast [c2];refine cl hgt ?_;push_cast [c2];refine cl hfr ?_;push_cast [c3];refine Xp [0,1,5,3] [] (htl 8 wy) rfl (by decide) (by decide) (by simp) (by push_cast) (by push_cast) ?_;push_cast
     repeat refine an ?_
     exact ⟨(i+1,_),⟨by dsimp only;omega,hfin _ eo⟩,by dsimp only;omega,wk (h5:=by push_cast [ze,zd,CLe,zf,qN])⟩
   rw[if_neg (fun q=>q (Af c3))]at eo;have hpb:=hpb (Af c3);have hpl1:=hpb.2;cases hT:zk T.1.ino D.w.fs.xs with
   | true =>
    rw[hT]at hgt eW;simp only[WN,W2,if_true]at eW;rw[←eW]at htk;have e1:Zu D T.1=(J9 D (zaF (zE D.w.fs T.1))).1:=by unfold Zu;rw[hT];rfl
    have hsh:=zls D hds (zE D.w.fs T.1) (by omega);rw[e1]at hst1;have e2:D2=if (J9 (Zu D T.1) (Qa (zE D.w.fs T.1) u)).2≠0 then qN (J9 (Zu D T.1) (Qa (zE D.w.fs T.1) u)).1 (Jf k 8 u v (J9 (Zu D T.1) (Qa (zE D.w.fs T.1) u)).2) else (J9 (Zu D T.1) (Qa (zE D.w.fs T.1) u)).1:=eo;rw[e1]at e2;clear eo e1;generalize (J9 D (zaF (zE D.w.fs T.1))).1=D1 at *;have hd1:=hst1.s (by omega);have hgr:GrD (N+3*i+1+1) (J9 D1 (Qa (zE D.w.fs T.1) u)).1:=hst1.add (by show u.length<=1000;omega) (by show ¬(4:Int)=3;decide);have hop:=zak D1 hd1 4 (by decide) (by decide) (zE D.w.fs T.1) [] u (zhL D1.w hd1.wi hd1.ws (zE D.w.fs T.1) u (by omega) (by omega));rw[show (Qa (zE D.w.fs T.1) u)=⟨4,0,zE D.w.fs T.1,[],u⟩ from rfl]at e2 hgr;generalize hAA:J9 D1 ⟨4,0,zE D.w.fs T.1,[],u⟩=A at *;have htl2:=Xi A.1 (by have:=hgr.b.diags;omega) k o ops u v (by omega) (by omega);unfold opL at hop hsh;simp only[zaF]at hsh;rcases Od (A.2=0) with c5 | c5
    ·rw[if_neg (fun q=>q (Af c5))]at e2;refine cl hsrc ?_;push_cast [c1];refine cl hsk ?_;push_cast [c2];refine cl hgt ?_;push_cast [c2];refine cl htk ?_;push_cast [c3];refine cl (hpb.1) ?_;push_cast;refine cl hsh ?_;push_cast;refine cl hop ?_;push_cast [c5]
     repeat refine an ?_
     exact ⟨(i+1,_),⟨by dsimp only;omega,hfin _ e2⟩,by dsimp only;omega,wk (h5:=by push_cast [ze,zd,CLe,zf,qN])⟩
    ·rw[if_pos (O5 c5)]at e2;refine cl hsrc ?_;push_cast [c1];refine cl hsk ?_;push_cast [c2];refine cl hgt ?_;push_cast [c2];refine cl htk ?_;push_cast [c3];refine cl (hpb.1) ?_;push_cast;refine cl hsh ?_;push_cast;refine cl hop ?_;push_cast [c5];refine Xp [0,1,5,3] [] (htl2 8 A.2) rfl (by decide) (by decide) (by simp) (by push_cast) (by push_cast) ?_;push_cast
     repeat refine an ?_
     exact ⟨(i+1,_),⟨by dsimp only;omega,hfin _ e2⟩,by dsimp only;omega,wk (h5:=by push_cast [ze,zd,CLe,zf,qN])⟩
   | false =>
    rw[hT]at hgt eW;simp only[WN,W2,if_true]at eW;rw[←eW]at hfr;have e1:Zu D T.1=D:=by unfold Zu;rw[hT];rfl
    rw[e1]at hst1;have e2:D2=if (J9 (Zu D T.1) (Qa (zE D.w.fs T.1) u)).2≠0 then qN (J9 (Zu D T.1) (Qa (zE D.w.fs T.1) u)).1 (Jf k 8 u v (J9 (Zu D T.1) (Qa (zE D.w.fs T.1) u)).2) else (J9 (Zu D T.1) (Qa (zE D.w.fs T.1) u)).1:=eo;rw[e1]at e2;clear eo e1;have hd1:=hst1.s (by omega);have hgr:GrD (N+3*i+1+1) (J9 D (Qa (zE D.w.fs T.1) u)).1:=hst1.add (by show u.length<=1000;omega) (by show ¬(4:Int)=3;decide);have hop:=zak D hd1 4 (by decide) (by decide) (zE D.w.fs T.1) [] u (zhL D.w hd1.wi hd1.ws (zE D.w.fs T.1) u (by omega) (by omega));rw[show (Qa (zE D.w.fs T.1) u)=⟨4,0,zE D.w.fs T.1,[],u⟩ from rfl]at e2 hgr;generalize hAA:J9 D ⟨4,0,zE D.w.fs T.1,[],u⟩=A at *;have htl2:=Xi A.1 (by have:=hgr.b.diags;omega) k o ops u v (by omega) (by omega);unfold opL at hop;rcases Od (A.2=0) with c5 | c5
    ·rw[if_neg (fun q=>q (Af c5))]at e2;refine cl hsrc ?_;push_cast [c1];refine cl hsk ?_;push_cast [c2];refine cl hgt ?_;push_cast [c2];refine cl hfr ?_;push_cast [c3];refine cl (hpb.1) ?_;push_cast;refine cl hop ?_;push_cast [c5]
     repeat refine an ?_
     exact ⟨(i+1,_),⟨by dsimp only;omega,hfin _ e2⟩,by dsimp only;omega,wk (h5:=by push_cast [ze,zd,CLe,zf,qN])⟩
    ·rw[if_pos (O5 c5)]at e2;refine cl hsrc ?_;push_cast [c1];refine cl hsk ?_;push_cast [c2];refine cl hgt ?_;push_cast [c2];refine cl hfr ?_;push_cast [c3];refine cl (hpb.1) ?_;push_cast;refine cl hop ?_;push_cast [c5];refine Xp [0,1,5,3] [] (htl2 8 A.2) rfl (by decide) (by decide) (by simp) (by push_cast) (by push_cast) ?_;push_cast
     repeat refine an ?_
     exact ⟨(i+1,_),⟨by dsimp only;omega,hfin _ e2⟩,by dsimp only;omega,wk (h5:=by push_cast [ze,zd,CLe,zf,qN])⟩
end
section
open CA CB
open Go.RowKit
theorem zcL {bx:List (List C)} {c:C} (h:c.stayB=true):Yf bx c c:=by
 cases c<;>simp[C.stayB]at h<;>(unfold Yf;simp[C.frz])
theorem jW {bx:List (List C)}:∀ {cs:List C},(cs.all C.stayB)=true->Ju bx cs cs
 | [],_=>by unfold Ju;rfl
 | c :: r,h=>by
  rw[AX,Wt]at h;unfold Ju;exact ⟨_,_,rfl,zcL h.1,jW h.2⟩
theorem qd {bx:List (List C)} {c d:C} {r s:List C} (h:Yf bx c d) (h2:Ju bx r s):Ju bx (c :: r) (d :: s):=by unfold Ju;exact ⟨_,_,rfl,h,h2⟩
theorem qY {bx:List (List C)} {cs:List C} (h:(cs.all C.stayB)=true):Yf bx (.agg cs) (.agg cs):=by unfold Yf;exact ⟨_,rfl,jW h⟩
theorem zbH (f:FsV) (hf:FsI f) (hs:FsS f) (p:Lz) (hp:p.length<=100000):Fun Tryz.prog G0 147 [.agg (fsC f),.str p] (.tup [.agg (YB (qP f p).1),.sc (.int .i64 (qP f p).2)]) 0:=by
 have h1:=zmJ f hf hs p (by omega);have h2:=j5 (G:=G0) f (atV f p).1.ino (by have:=hs.len;omega);by_cases c1:(atV f p).2=0
 ·by_cases c2:(atV f p).1.ino=0
  ·have e:qP f p=(Mg,1):=by unfold qP;rw[if_neg (fun h=>h c1),if_pos c2]
   rw[c1]at h1;refine fon Tryz.func147 ?_;dsimp only[Tryz.f147];push_cast;refine cl h1 ?_;push_cast [c2];exact dn (by push_cast [ze,zd,CLe,zf,e,Mg])
  ·have e:qP f p=(zg (atV f p).1.ino f.xs,0):=by unfold qP;rw[if_neg (fun h=>h c1),if_neg c2]
   rw[c1]at h1;refine fon Tryz.func147 ?_;dsimp only[Tryz.f147];push_cast;refine cl h1 ?_;push_cast [c2];refine cl h2 ?_;push_cast;exact dn (by push_cast [ze,zd,CLe,zf,e])
 ·have e:qP f p=(Mg,(atV f p).2):=by unfold qP;rw[if_pos c1]
  refine fon Tryz.func147 ?_;dsimp only[Tryz.f147];push_cast;refine cl h1 ?_;push_cast [c1];exact dn (by push_cast [ze,zd,CLe,zf,e,Mg])
theorem zh0 (f:FsV) (hf:FsI f) (hs:FsS f) (p:Lz) (hp:p.length<=100000):Fun Tryz.prog G0 101 [.agg (fsC f),.str p] (.tup [.sc (.int .i64 (Jt f p).1),.sc (.int .i64 (Jt f p).2)]) 0:=by
 have h1:=zbH f hf hs p hp;by_cases c1:(qP f p).2=0
 ·have d1:(atV f p).2=0/\(atV f p).1.ino≠0/\(qP f p).1=zg (atV f p).1.ino f.xs:=by
   unfold qP at c1 ⊢;split at c1
   ·rename_i h;exact absurd c1 h
   ·rename_i h;split at c1
    ·exact absurd c1 (show ¬(1:Int)=0 by decide)
    ·rename_i h';rw[if_neg h,if_neg h'];exact ⟨Wy.1 h,h',rfl⟩
  rw[c1]at h1;by_cases c2:(qP f p).1.kind=2
  ·have e:Jt f p=((qP f p).1.ino,0):=by unfold Jt;rw[if_neg (fun h=>h d1.1),if_neg d1.2.1,if_neg (by rw[←d1.2.2];exact fun h=>h c2),d1.2.2]
   refine fon Tryz.func101 ?_;dsimp only[Tryz.f101];push_cast;refine cl h1 ?_;push_cast [c2];exact dn (by push_cast [ze,zd,CLe,zf,e])
  ·have e:Jt f p=(0,3):=by unfold Jt;rw[if_neg (fun h=>h d1.1),if_neg d1.2.1,if_pos (by rw[←d1.2.2];exact c2)]
   refine fon Tryz.func101 ?_;dsimp only[Tryz.f101];push_cast;refine cl h1 ?_;push_cast [c2];exact dn (by push_cast [ze,zd,CLe,zf,e])
 ·have e:Jt f p=(0,(qP f p).2):=by
   unfold Jt qP;unfold qP at c1;split
   ·rfl
   ·rename_i h;rw[if_neg h]at c1;split
    ·rfl
    ·rename_i h';rw[if_neg h']at c1;exact absurd rfl c1
  refine fon Tryz.func101 ?_;dsimp only[Tryz.f101];push_cast;refine cl h1 ?_;push_cast [c1];exact dn (by push_cast [ze,zd,CLe,zf,e])
theorem QE {A Z:List C} (h:A.length=n):(A++Z).take n=A:=by rw[Ax,←h,Wh (Wb _)];simp
theorem za6 {A B Z:List C} {m:Nat} (ha:A.length=m) (hb:B.length=n):(spl (A++Z) m B).take ((m+n)*1)=A++B:=by
 unfold spl;rw[QE ha,QE (by rw[Wj,ha,hb,Nat.mul_one])]
theorem xr {A B Z Y:List C} {m:Nat} (ha:A.length=m) (hb:B.length=n):((A++Z).take m++B++Y).take ((m+n)*1)=A++B:=by
 rw[Nat.mul_one,QE ha,QE (by rw[Wj,ha,hb])]
theorem UB {a b:Xk}:(zF (a++b)).flatten=(zF a).flatten++(zF b).flatten:=by
 unfold zF;rw[W9,AU]
def zs2 (f:FsV) (follow:Bool) (k:Nat):Prop:=k<=40->∀ (l:Xk) (s:zO) (dir:Bool) (q:Int),q=40-(k:Int)->l.length+k*20000<=1000000 ->
  Fun Tryz.prog G0 102 [.agg (fsC f),.agg (jL s),.sl 1 (zF l),.sc (.bool follow),.sc (.bool dir),.sc (.int .i64 q)] (.tup [.agg (jL (onN f follow k l s dir).1),.sc (.int .i64 (onN f follow k l s dir).2)]) 0
theorem zpd (hs:FsS f) (follow:Bool) (k:Nat) (s:zO) (dir:Bool) (q:Int) :
  Fun Tryz.prog G0 102 [.agg (fsC f),.agg (jL s),.sl 1 (zF []),.sc (.bool follow),.sc (.bool dir),.sc (.int .i64 q)] (.tup [.agg (jL (onN f follow k [] s dir).1),.sc (.int .i64 (onN f follow k [] s dir).2)]) 0:=by
 have hg:=j5 (G:=G0) f s.ino (by have:=hs.len;omega);rw[U7];have e0:onL f follow (lkN f follow k) [] s dir=if zk s.ino f.xs=true/\dir=true/\(zg s.ino f.xs).kind≠2 then (qk,3) else (s,0):=rfl;cases hh:zk s.ino f.xs with
 | false =>
  rw[hh]at hg;have e:onL f follow (lkN f follow k) [] s dir=(s,0):=by rw[e0,hh];rfl
  refine fof (fun i=>if i=31 then X5 [(0,.pure),(1,.pure),(2,.pure),(3,.pure),(4,.pure),(5,.pure),(7,.pure),(9,.pure),(10,.pure),(11,.pure),(12,.pure),(6,.flt [0,1,2,6,7,8,9,10]),(8,.flt [0,1,2,7,8,9,10]),(13,.bar),(14,.pure),(15,.pure),(16,.bar),(17,.pure)] else []) Tryz.func102 ?_;dsimp only[Tryz.f102];push_cast;refine cl hg ?_;push_cast;exact dn (by push_cast [ze,zd,CLe,zf,e])
 | true =>
  rw[hh]at hg;cases dir with
  | false =>
   have e:onL f follow (lkN f follow k) [] s false=(s,0):=by rw[e0];simp
   refine fof (fun i=>if i=31 then X5 [(0,.pure),(1,.pure),(2,.pure),(3,.pure),(4,.pure),(5,.pure),(7,.pure),(9,.pure),(10,.pure),(11,.pure),(12,.pure),(6,.flt [0,1,2,6,7,8,9,10]),(8,.flt [0,1,2,7,8,9,10]),(13,.bar),(14,.pure),(15,.pure),(16,.bar),(17,.pure)] else []) Tryz.func102 ?_;dsimp only[Tryz.f102];push_cast;refine cl hg ?_;push_cast;exact dn (by push_cast [ze,zd,CLe,zf,e])
  | true =>
   by_cases hk:(zg s.ino f.xs).kind=2
   ·have e:onL f follow (lkN f follow k) [] s true=(s,0):=by rw[e0];simp[hk]
    refine fof (fun i=>if i=31 then X5 [(0,.pure),(1,.pure),(2,.pure),(3,.pure),(4,.pure),(5,.pure),(7,.pure),(9,.pure),(10,.pure),(11,.pure),(12,.pure),(6,.flt [0,1,2,6,7,8,9,10]),(8,.flt [0,1,2,7,8,9,10]),(13,.bar),(14,.pure),(15,.pure),(16,.bar),(17,.pure)] else []) Tryz.func102 ?_;dsimp only[Tryz.f102];push_cast;refine cl hg ?_;push_cast [hk];exact dn (by push_cast [ze,zd,CLe,zf,e])
   ·have e:onL f follow (lkN f follow k) [] s true=(qk,3):=by rw[e0,hh];simp[hk]
    refine fof (fun i=>if i=31 then X5 [(0,.pure),(1,.pure),(2,.pure),(3,.pure),(4,.pure),(5,.pure),(7,.pure),(9,.pure),(10,.pure),(11,.pure),(12,.pure),(6,.flt [0,1,2,6,7,8,9,10]),(8,.flt [0,1,2,7,8,9,10]),(13,.bar),(14,.pure),(15,.pure),(16,.bar),(17,.pure)] else []) Tryz.func102 ?_;dsimp only[Tryz.f102];push_cast;refine cl hg ?_;push_cast [hk];exact dn (by push_cast [ze,zd,CLe,zf,e,qk])
theorem znw (hs:FsS f) (follow:Bool) (k:Nat) (hk40:k<=40) (ihk:∀ j,j<k->zs2 f follow j) (n:Lz) (r:Xk) (ih:∀ (s:zO) (dir:Bool) (q:Int),q=40-(k:Int)->r.length+k*20000<=1000000->Fun Tryz.prog G0 102 [.agg (fsC f),.agg (jL s),.sl 1 (zF r),.sc (.bool follow),.sc (.bool dir),.sc (.int .i64 q)] (.tup [.agg (jL (onN f follow k r s dir).1),.sc (.int .i64 (onN f follow k r s dir).2)]) 0)
    (s:zO) (dir:Bool) (q:Int) (hq:q=40-(k:Int)) (hl:(n :: r).length+k*20000<=1000000) :
    Fun Tryz.prog G0 102 [.agg (fsC f),.agg (jL s),.sl 1 ([.str n] :: zF r),.sc (.bool follow),.sc (.bool dir),.sc (.int .i64 q)] (.tup [.agg (jL (onN f follow k (n :: r) s dir).1),.sc (.int .i64 (onN f follow k (n :: r) s dir).2)]) 0:=by
  have hlen:=hs.len;have hsl:(zF r).length=r.length:=We ..;have hz:((r.length:Int)+1=0)=False:=WH (by omega);have hrl:r.length+k*20000<=1000000:=by rw[Wg]at hl;omega
  rw[U7]at ih ⊢;have e0:onL f follow (lkN f follow k) (n :: r) s dir=if s.ino=0 then (qk,1)
    else if (zg s.ino f.xs).kind≠2 then (qk,3)
    else if n = [46] then onL f follow (lkN f follow k) r ⟨0,[],(zg s.ino f.xs).ino⟩ dir
    else if n = [46,46] then onL f follow (lkN f follow k) r ⟨0,[],(zg s.ino f.xs).parent⟩ dir
    else if Xu n (zg s.ino f.xs).es=false∨(zg (zP n (zg s.ino f.xs).es) f.xs).kind≠3∨(r = []/\follow=false/\dir=false) then
      onL f follow (lkN f follow k) r ⟨(zg s.ino f.xs).ino,n,zP n (zg s.ino f.xs).es⟩ dir
    else lkN f follow k (zg (zP n (zg s.ino f.xs).es) f.xs) (zg s.ino f.xs) r dir:=rfl
  by_cases h1:s.ino=0
  · rw[if_pos h1]at e0;refine fof (fun i=>if i=31 then X5 [(0,.pure),(1,.pure),(2,.pure),(3,.pure),(4,.pure),(5,.pure),(7,.pure),(9,.pure),(10,.pure),(11,.pure),(12,.pure),(6,.flt [0,1,2,6,7,8,9,10]),(8,.flt [0,1,2,7,8,9,10]),(13,.bar),(14,.pure),(15,.pure),(16,.bar),(17,.pure)] else []) Tryz.func102 ?_;dsimp only[Tryz.f102];push_cast [hz,h1];exact dn (by push_cast [ze,zd,CLe,zf,e0,qk])
  rw[if_neg h1]at e0;have hg:=j5 (G:=G0) f s.ino (by omega);by_cases h2:(zg s.ino f.xs).kind=2
  case neg =>
    rw[if_pos h2]at e0;refine fof (fun i=>if i=31 then X5 [(0,.pure),(1,.pure),(2,.pure),(3,.pure),(4,.pure),(5,.pure),(7,.pure),(9,.pure),(10,.pure),(11,.pure),(12,.pure),(6,.flt [0,1,2,6,7,8,9,10]),(8,.flt [0,1,2,7,8,9,10]),(13,.bar),(14,.pure),(15,.pure),(16,.bar),(17,.pure)] else []) Tryz.func102 ?_;dsimp only[Tryz.f102];push_cast [hz,h1];refine cl hg ?_;push_cast [h2];exact dn (by push_cast [ze,zd,CLe,zf,e0,qk])
  rw[if_neg (fun h=>h h2)]at e0;have hh:=Ye h2;have hnod:=hs.node _ (zi hh).2.1;rw[hh]at hg;generalize zg s.ino f.xs=d at hg h2 e0 hnod;by_cases h3:n = [46]
  · rw[if_pos h3]at e0;have hi:=ih ⟨0,[],d.ino⟩ dir q hq hrl;refine fof (fun i=>if i=31 then X5 [(0,.pure),(1,.pure),(2,.pure),(3,.pure),(4,.pure),(5,.pure),(7,.pure),(9,.pure),(10,.pure),(11,.pure),(12,.pure),(6,.flt [0,1,2,6,7,8,9,10]),(8,.flt [0,1,2,7,8,9,10]),(13,.bar),(14,.pure),(15,.pure),(16,.bar),(17,.pure)] else []) Tryz.func102 ?_;dsimp only[Tryz.f102];push_cast [hz,h1];refine cl hg ?_;push_cast [h2,h3]
    repeat refine an ?_
    refine cl hi ?_;push_cast;exact dn (by push_cast [ze,zd,CLe,zf,e0])
  rw[if_neg h3]at e0;by_cases h4:n = [46,46]
  · rw[if_pos h4]at e0;have hi:=ih ⟨0,[],d.parent⟩ dir q hq hrl;have h3':([46,46]:Lz)≠[46]:=by decide
    refine fof (fun i=>if i=31 then X5 [(0,.pure),(1,.pure),(2,.pure),(3,.pure),(4,.pure),(5,.pure),(7,.pure),(9,.pure),(10,.pure),(11,.pure),(12,.pure),(6,.flt [0,1,2,6,7,8,9,10]),(8,.flt [0,1,2,7,8,9,10]),(13,.bar),(14,.pure),(15,.pure),(16,.bar),(17,.pure)] else []) Tryz.func102 ?_;dsimp only[Tryz.f102];push_cast [hz,h1];refine cl hg ?_;push_cast [h2,h4,h3']
    repeat refine an ?_
    refine cl hi ?_;push_cast;exact dn (by push_cast [ze,zd,CLe,zf,e0])
  rw[if_neg h4]at e0;have hfi:=ya (G:=G0) d.es n (by omega);have hx:=j5 (G:=G0) f (zP n d.es) (by omega);have stop:(Xu n d.es=false∨(zg (zP n d.es) f.xs).kind≠3∨(r = []/\follow=false/\dir=false))->onL f follow (lkN f follow k) (n :: r) s dir=onL f follow (lkN f follow k) r ⟨d.ino,n,zP n d.es⟩ dir:=fun h=>by rw[e0,if_pos h]
  have hi:=ih ⟨d.ino,n,zP n d.es⟩ dir q hq hrl;cases hE:Xu n d.es with
  | false =>
    have e:=stop (.inl hE);rw[hE]at hfi;refine fof (fun i=>if i=31 then X5 [(0,.pure),(1,.pure),(2,.pure),(3,.pure),(4,.pure),(5,.pure),(7,.pure),(9,.pure),(10,.pure),(11,.pure),(12,.pure),(6,.flt [0,1,2,6,7,8,9,10]),(8,.flt [0,1,2,7,8,9,10]),(13,.bar),(14,.pure),(15,.pure),(16,.bar),(17,.pure)] else []) Tryz.func102 ?_;dsimp only[Tryz.f102];push_cast [hz,h1];refine cl hg ?_;push_cast [h2,h3,h4]
    repeat refine an ?_
    refine cl hfi ?_;push_cast [hE];refine cl hx ?_;push_cast [h2];refine cl hi ?_;push_cast;exact dn (by push_cast [ze,zd,CLe,zf,e])
  | true =>
  rw[hE]at hfi;by_cases hk3:(zg (zP n d.es) f.xs).kind=3
  case neg =>
    have e:=stop (.inr (.inl hk3));refine fof (fun i=>if i=31 then X5 [(0,.pure),(1,.pure),(2,.pure),(3,.pure),(4,.pure),(5,.pure),(7,.pure),(9,.pure),(10,.pure),(11,.pure),(12,.pure),(6,.flt [0,1,2,6,7,8,9,10]),(8,.flt [0,1,2,7,8,9,10]),(13,.bar),(14,.pure),(15,.pure),(16,.bar),(17,.pure)] else []) Tryz.func102 ?_;dsimp only[Tryz.f102];push_cast [hz,h1];refine cl hg ?_;push_cast [h2,h3,h4]
    repeat refine an ?_
    refine cl hfi ?_;push_cast [hE];refine cl hx ?_;push_cast [hk3];refine cl hi ?_;push_cast;exact dn (by push_cast [ze,zd,CLe,zf,e])
  by_cases hst:r = []/\follow=false/\dir=false
  · have e:=stop (.inr (.inr hst));obtain ⟨rfl,rfl,rfl⟩:=hst;refine fof (fun i=>if i=31 then X5 [(0,.pure),(1,.pure),(2,.pure),(3,.pure),(4,.pure),(5,.pure),(7,.pure),(9,.pure),(10,.pure),(11,.pure),(12,.pure),(6,.flt [0,1,2,6,7,8,9,10]),(8,.flt [0,1,2,7,8,9,10]),(13,.bar),(14,.pure),(15,.pure),(16,.bar),(17,.pure)] else []) Tryz.func102 ?_;dsimp only[Tryz.f102];push_cast [hz,h1];refine cl hg ?_;push_cast [h2,h3,h4]
    repeat refine an ?_
    refine cl hfi ?_;push_cast [hE];refine cl hx ?_;push_cast [hk3,Wv,Wz];refine cl hi ?_;push_cast;exact dn (by push_cast [ze,zd,CLe,zf,e])
  rw[if_neg (fun h=>by
    rcases h with h | h | h
    · rw[hE]at h;cases h
    · exact h hk3
    · exact hst h)]at e0
  clear stop hi ih;have hxn:(zg (zP n d.es) f.xs).data.length<=10000:=by
    have hhx:zk (zP n d.es) f.xs=true:=by
      cases hq2:zk (zP n d.es) f.xs with
      | true=>rfl
      | false=>rw[(JW hq2).2]at hk3;exact absurd hk3 (by decide)
    exact (hs.node _ (zi hhx).2.1).2.1
  generalize zk (zP n d.es) f.xs=hb at hx;generalize zg (zP n d.es) f.xs=x at hx hk3 e0 hxn;have hgo:((r.length:Int)=0)=(r = []):=by
    rw[←Ak];exact propext ⟨fun h=>by omega,fun h=>by omega⟩
  cases k with
  | zero =>
    have hq40:q=40:=by omega
    have e:onL f follow (lkN f follow 0) (n :: r) s dir=(qk,6):=e0;by_cases hr:r = []
    · subst hr;cases follow<;>cases dir<;>first
        | exact absurd ⟨rfl,rfl,rfl⟩ hst
        | (subst hq40
           refine fof (fun i=>if i=31 then X5 [(0,.pure),(1,.pure),(2,.pure),(3,.pure),(4,.pure),(5,.pure),(7,.pure),(9,.pure),(10,.pure),(11,.pure),(12,.pure),(6,.flt [0,1,2,6,7,8,9,10]),(8,.flt [0,1,2,7,8,9,10]),(13,.bar),(14,.pure),(15,.pure),(16,.bar),(17,.pure)] else []) Tryz.func102 ?_;dsimp only[Tryz.f102];push_cast [hz,h1];refine cl hg ?_;push_cast [h2,h3,h4]
           repeat refine an ?_
           refine cl hfi ?_;push_cast [hE];refine cl hx ?_;push_cast [hk3,Wv,Wz];exact dn (by push_cast [ze,zd,CLe,zf,e,qk]))
    · have hr':=WH hr;subst hq40;refine fof (fun i=>if i=31 then X5 [(0,.pure),(1,.pure),(2,.pure),(3,.pure),(4,.pure),(5,.pure),(7,.pure),(9,.pure),(10,.pure),(11,.pure),(12,.pure),(6,.flt [0,1,2,6,7,8,9,10]),(8,.flt [0,1,2,7,8,9,10]),(13,.bar),(14,.pure),(15,.pure),(16,.bar),(17,.pure)] else []) Tryz.func102 ?_;dsimp only[Tryz.f102];push_cast [hz,h1];refine cl hg ?_;push_cast [h2,h3,h4]
      repeat refine an ?_
      refine cl hfi ?_;push_cast [hE];refine cl hx ?_;push_cast [hk3,hgo,hr'];exact dn (by push_cast [ze,zd,CLe,zf,e,qk])
  | succ k =>
    have hq40:(q=40)=False:=WH (by omega);have hlo:=U9 x.data (by omega);have hre:=kY x.data (by omega);have hns:=qx x.data;have e1:onL f follow (lkN f follow (k+1)) (n :: r) s dir=if X3 x.data then (qk,7) else onN f follow k (zm x.data++r) ⟨0,[],if Hy x.data then 1 else d.ino⟩ (dir||(ja x.data&&decide (r = []))):=e0;have hon:=fun dd=>ihk k (by omega) (by omega) (zm x.data++r) ⟨0,[],if Hy x.data then 1 else d.ino⟩ dd (q+1) (by omega) (by simp;omega);unfold HM at hre;change Fun _ _ _ _ (.agg [qM (Hy x.data),.own 0 9 1 (zF (zm x.data)),qM (ja x.data)]) _ at hre;cases hlp:X3 x.data with
    | true =>
      rw[hlp,if_pos rfl]at e1;rw[hlp]at hlo;by_cases hr:r = []
      · subst hr;cases follow<;>cases dir<;>first
          | exact absurd ⟨rfl,rfl,rfl⟩ hst
          | (
             refine fof (fun i=>if i=31 then X5 [(0,.pure),(1,.pure),(2,.pure),(3,.pure),(4,.pure),(5,.pure),(7,.pure),(9,.pure),(10,.pure),(11,.pure),(12,.pure),(6,.flt [0,1,2,6,7,8,9,10]),(8,.flt [0,1,2,7,8,9,10]),(13,.bar),(14,.pure),(15,.pure),(16,.bar),(17,.pure)] else []) Tryz.func102 ?_;dsimp only[Tryz.f102];push_cast [hz,h1];refine cl hg ?_;push_cast [h2,h3,h4]
             repeat refine an ?_
             refine cl hfi ?_;push_cast [hE];refine cl hx ?_;push_cast [hk3,Wv,Wz,hq40];refine cl hlo ?_;push_cast;exact dn (by push_cast [ze,zd,CLe,zf,e1,qk]))
      · have hr':=WH hr;refine fof (fun i=>if i=31 then X5 [(0,.pure),(1,.pure),(2,.pure),(3,.pure),(4,.pure),(5,.pure),(7,.pure),(9,.pure),(10,.pure),(11,.pure),(12,.pure),(6,.flt [0,1,2,6,7,8,9,10]),(8,.flt [0,1,2,7,8,9,10]),(13,.bar),(14,.pure),(15,.pure),(16,.bar),(17,.pure)] else []) Tryz.func102 ?_;dsimp only[Tryz.f102];push_cast [hz,h1];refine cl hg ?_;push_cast [h2,h3,h4]
        repeat refine an ?_
        refine cl hfi ?_;push_cast [hE];refine cl hx ?_;push_cast [hk3,hgo,hr',hq40];refine cl hlo ?_;push_cast;exact dn (by push_cast [ze,zd,CLe,zf,e1,qk])
    | false =>
      rw[hlp,if_neg (by decide)]at e1;rw[hlp]at hlo;have hkn:∀ z∈zF (zm x.data),z.length=1:=fun z hz=>by obtain ⟨y,_,rfl⟩:=WR.1 hz;rfl
      have hkr:∀ z∈zF r,z.length=1:=fun z hz=>by obtain ⟨y,_,rfl⟩:=WR.1 hz;rfl
      have hkb:∀ z∈zF (zm x.data++r),z.length=1:=fun z hz=>by obtain ⟨y,_,rfl⟩:=WR.1 hz;rfl
      have hsb:jl (zF (zm x.data++r)):=fun z hz=>by obtain ⟨y,_,rfl⟩:=WR.1 hz;rfl
      have hnl:(zF (zm x.data)).length=(zm x.data).length:=We ..;obtain ⟨fr,hfr⟩:∃ fr,(if Hy x.data=true then 1 else d.ino)=fr:=⟨_,rfl⟩;obtain ⟨D,hD⟩:∃ D,(dir||(ja x.data&&decide (r = [])))=D:=⟨_,rfl⟩;have hon:=hon D;rw[hfr]at hon e1;rw[hD]at e1;by_cases hr:r = []
      · have hr':=eq_true hr;rw[Wo hr,Bg]at hD;cases hab:Hy x.data<;>cases hsp:ja x.data <;>
        · rw[hab,hsp]at hre;rw[hab]at hfr;rw[hsp]at hD;simp only[if_true,W2,WN]at hfr;subst hfr;cases follow<;>cases dir<;>first
            | exact absurd ⟨hr,rfl,rfl⟩ hst
            | (simp only[BB,Az]at hD
               subst hD;refine fof (fun i=>if i=31 then X5 [(0,.pure),(1,.pure),(2,.pure),(3,.pure),(4,.pure),(5,.pure),(7,.pure),(9,.pure),(10,.pure),(11,.pure),(12,.pure),(6,.flt [0,1,2,6,7,8,9,10]),(8,.flt [0,1,2,7,8,9,10]),(13,.bar),(14,.pure),(15,.pure),(16,.bar),(17,.pure)] else []) Tryz.func102 ?_;dsimp only[Tryz.f102];push_cast [hz,h1];refine cl hg ?_;push_cast [h2,h3,h4]
               repeat refine an ?_
               refine cl hfi ?_;push_cast [hE];refine cl hx ?_;push_cast [hk3,hgo,hr',hq40];refine cl hlo ?_;push_cast;refine cl hre ?_;push_cast [hgo,hr']
               repeat refine an ?_
               refine uZ HV zhW rfl rfl (by decide) rfl (zK hkn) (by omega) (by omega) (fun g0=>?_) (fun g0 cap c1 c2=>?_)
               · push_cast;refine ⟨by split<;>first | omega | trivial,?_⟩;refine uZ HV zhW rfl rfl (by decide) rfl (zK hkr) (by omega) (by omega) (fun g1=>?_) (fun g1 cap c1 c2=>?_)
                 · have hn0:zm x.data = []:=WO (by omega);have hr0:r = []:=WO (by omega);push_cast;refine ⟨by split<;>first | omega | trivial,?_⟩;push_cast;rw[show zm x.data++r = [] by rw[hn0,hr0];rfl]at hon e1;refine call (hon.less (by push_cast [ze,zd,CLe,zf])) ?_;push_cast;exact dn (by push_cast [ze,zd,CLe,zf,e1])
                 · have hn0:zm x.data = []:=WO (by omega);have hn1:(zm x.data).length=0:=by rw[hn0];rfl
                   push_cast;refine ⟨by split<;>first | omega | trivial,?_⟩;push_cast;refine MO [.agg (fsC f),.agg (jL ⟨0,[],_⟩),.sl 1 (zF (zm x.data++r)),.sc (.bool _),.sc (.bool _),.sc (.int .i64 (q+1))] hon rfl ?_ ?_
                   · exact qd (qY rfl) (qd (qY rfl) (qd (QI rfl (by rw[We,Wj];try omega) (by omega) c2 hkb hsb (by rw[hn0];exact QE ((zK hkr).trans (by rw[hsl])))) (jW rfl)))
                   · push_cast;exact dn (by push_cast [ze,zd,CLe,zf,e1])
               · push_cast;refine ⟨by split<;>first | omega | trivial,?_⟩;refine QZ HV zhW rfl rfl (by decide) rfl (zK hkr) rfl (by rw[Wj,zK hkn,Ad];omega) (by omega) (by omega) (by omega) (fun g1=>?_) (fun g1 cap2 c3 c4=>?_)
                 · push_cast;refine ⟨by split<;>first | omega | trivial,?_⟩;push_cast;refine MO [.agg (fsC f),.agg (jL ⟨0,[],_⟩),.sl 1 (zF (zm x.data++r)),.sc (.bool _),.sc (.bool _),.sc (.int .i64 (q+1))] hon rfl ?_ ?_
                   · exact qd (qY rfl) (qd (qY rfl) (qd (QI rfl (by rw[We,Wj];try omega) (by omega) c2 hkb hsb (by exact (za6 ((zK hkn).trans (by omega)) ((zK hkr).trans (by omega))).trans UB.symm)) (jW rfl)))
                   · push_cast;exact dn (by push_cast [ze,zd,CLe,zf,e1])
                 · push_cast;refine ⟨by split<;>first | omega | trivial,?_⟩;push_cast;refine MO [.agg (fsC f),.agg (jL ⟨0,[],_⟩),.sl 1 (zF (zm x.data++r)),.sc (.bool _),.sc (.bool _),.sc (.int .i64 (q+1))] hon rfl ?_ ?_
                   · exact qd (qY rfl) (qd (qY rfl) (qd (QI rfl (by rw[We,Wj];try omega) (by omega) c4 hkb hsb (by exact (xr ((zK hkn).trans (by omega)) ((zK hkr).trans (by omega))).trans UB.symm)) (jW rfl)))
                   · push_cast;exact dn (by push_cast [ze,zd,CLe,zf,e1]))
      · have hr':=WH hr;rw[Wp hr,O9,Az]at hD;subst hD;cases hab:Hy x.data<;>cases hsp:ja x.data <;>
        · rw[hab,hsp]at hre;rw[hab]at hfr;simp only[if_true,W2,WN]at hfr;subst hfr;refine fof (fun i=>if i=31 then X5 [(0,.pure),(1,.pure),(2,.pure),(3,.pure),(4,.pure),(5,.pure),(7,.pure),(9,.pure),(10,.pure),(11,.pure),(12,.pure),(6,.flt [0,1,2,6,7,8,9,10]),(8,.flt [0,1,2,7,8,9,10]),(13,.bar),(14,.pure),(15,.pure),(16,.bar),(17,.pure)] else []) Tryz.func102 ?_;dsimp only[Tryz.f102];push_cast [hz,h1];refine cl hg ?_;push_cast [h2,h3,h4]
          repeat refine an ?_
          refine cl hfi ?_;push_cast [hE];refine cl hx ?_;push_cast [hk3,hgo,hr',hq40];refine cl hlo ?_;push_cast;refine cl hre ?_;push_cast [hgo,hr']
          repeat refine an ?_
          refine uZ HV zhW rfl rfl (by decide) rfl (zK hkn) (by omega) (by omega) (fun g0=>?_) (fun g0 cap c1 c2=>?_)
          · push_cast;refine ⟨by split<;>first | omega | trivial,?_⟩;refine uZ HV zhW rfl rfl (by decide) rfl (zK hkr) (by omega) (by omega) (fun g1=>?_) (fun g1 cap c1 c2=>?_)
            · exact absurd (WO (by omega)) hr
            · have hn0:zm x.data = []:=WO (by omega);have hn1:(zm x.data).length=0:=by rw[hn0];rfl
              push_cast;refine ⟨by split<;>first | omega | trivial,?_⟩;push_cast;refine MO [.agg (fsC f),.agg (jL ⟨0,[],_⟩),.sl 1 (zF (zm x.data++r)),.sc (.bool _),.sc (.bool _),.sc (.int .i64 (q+1))] hon rfl ?_ ?_
              · exact qd (qY rfl) (qd (qY rfl) (qd (QI rfl (by rw[We,Wj];try omega) (by omega) c2 hkb hsb (by rw[hn0];exact QE ((zK hkr).trans (by rw[hsl])))) (jW rfl)))
              · push_cast;exact dn (by push_cast [ze,zd,CLe,zf,e1])
          · push_cast;refine ⟨by split<;>first | omega | trivial,?_⟩;refine QZ HV zhW rfl rfl (by decide) rfl (zK hkr) rfl (by rw[Wj,zK hkn,Ad];omega) (by omega) (by omega) (by omega) (fun g1=>?_) (fun g1 cap2 c3 c4=>?_)
            · push_cast;refine ⟨by split<;>first | omega | trivial,?_⟩;push_cast;refine MO [.agg (fsC f),.agg (jL ⟨0,[],_⟩),.sl 1 (zF (zm x.data++r)),.sc (.bool _),.sc (.bool _),.sc (.int .i64 (q+1))] hon rfl ?_ ?_
              · exact qd (qY rfl) (qd (qY rfl) (qd (QI rfl (by rw[We,Wj];try omega) (by omega) c2 hkb hsb (by exact (za6 ((zK hkn).trans (by omega)) ((zK hkr).trans (by omega))).trans UB.symm)) (jW rfl)))
              · push_cast;exact dn (by push_cast [ze,zd,CLe,zf,e1])
            · push_cast;refine ⟨by split<;>first | omega | trivial,?_⟩;push_cast;refine MO [.agg (fsC f),.agg (jL ⟨0,[],_⟩),.sl 1 (zF (zm x.data++r)),.sc (.bool _),.sc (.bool _),.sc (.int .i64 (q+1))] hon rfl ?_ ?_
              · exact qd (qY rfl) (qd (qY rfl) (qd (QI rfl (by rw[We,Wj];try omega) (by omega) c4 hkb hsb (by exact (xr ((zK hkn).trans (by omega)) ((zK hkr).trans (by omega))).trans UB.symm)) (jW rfl)))
              · push_cast;exact dn (by push_cast [ze,zd,CLe,zf,e1])
theorem zpW (hs:FsS f) (follow:Bool):∀ k,zs2 f follow k:=by
 intro k
 induction k using Nat.strongRecOn with
 | ind k ihk =>
  intro hk l
  induction l with
  | nil=>intro s dir q hq hl;exact zpd hs follow k s dir q
  | cons n r ih=>intro s dir q hq hl;exact znw hs follow k hk ihk n r ih s dir q hq hl
end
section
open CA CB
open Go.RowKit
theorem ME (f:FsV) (hf:FsI f) (hs:FsS f) (b p:Lz) (follow:Bool) (hb:b.length<=100000) (hp:p.length<=100000):Fun Tryz.prog G0 52 [.agg (fsC f),.str b,.str p,.sc (.bool follow)] (.tup [.agg (jL (zx f b p follow).1),.sc (.int .i64 (zx f b p follow).2)]) 0:=by
 have hns:=qx p;have hlo:=U9 p hp;have hre:=kY p hp;have hon:=fun fr=>zpW hs follow 40 (Wb _) (zm p) ⟨0,[],fr⟩ (ja p) 0 rfl (by omega);unfold HM at hre;change Fun _ _ _ _ (.agg [qM (Hy p),.own 0 9 1 (zF (zm p)),qM (ja p)]) _ at hre;by_cases h1:p = []
 ·subst h1;have e:zx f b [] follow=(qk,1):=by unfold zx;rw[if_pos rfl]
  refine fon Tryz.func52 ?_;dsimp only[Tryz.f52];push_cast;exact dn (by push_cast [ze,zd,CLe,zf,e,qk])
 cases h2:X3 p with
 | true =>
  rw[h2]at hlo;have e:zx f b p follow=(qk,7):=by unfold zx;rw[if_neg h1,if_pos h2]
  refine fon Tryz.func52 ?_;dsimp only[Tryz.f52];push_cast [h1];refine cl hlo ?_;push_cast;exact dn (by push_cast [ze,zd,CLe,zf,e,qk])
 | false =>
 rw[h2]at hlo;cases h3:Hy p with
 | true =>
  rw[h3]at hre;have e:zx f b p follow=onN f follow 40 (zm p) ⟨0,[],1⟩ (ja p):=by unfold zx;rw[if_neg h1,if_neg (by rw[h2];decide),if_pos h3]
  have hon:=hon 1;refine fon Tryz.func52 ?_;dsimp only[Tryz.f52];push_cast [h1];refine cl hlo ?_;push_cast;refine cl hre ?_;push_cast;refine cl hon ?_;push_cast;exact dn (by push_cast [ze,zd,CLe,zf,e])
 | false =>
  rw[h3]at hre;have hh:=zh0 f hf hs b hb;by_cases h4:(Jt f b).2=0
  ·have e:zx f b p follow=onN f follow 40 (zm p) ⟨0,[],(Jt f b).1⟩ (ja p):=by unfold zx;rw[if_neg h1,if_neg (by rw[h2];decide),if_neg (by rw[h3];decide),if_neg (fun q=>q h4)]
   have hon:=hon (Jt f b).1;rw[h4]at hh;refine fon Tryz.func52 ?_;dsimp only[Tryz.f52];push_cast [h1];refine cl hlo ?_;push_cast;refine cl hre ?_;push_cast;refine cl hh ?_;push_cast;refine cl hon ?_;push_cast;exact dn (by push_cast [ze,zd,CLe,zf,e])
  ·have e:zx f b p follow=(qk,(Jt f b).2):=by unfold zx;rw[if_neg h1,if_neg (by rw[h2];decide),if_neg (by rw[h3];decide),if_pos h4]
   refine fon Tryz.func52 ?_;dsimp only[Tryz.f52];push_cast [h1];refine cl hlo ?_;push_cast;refine cl hre ?_;push_cast;refine cl hh ?_;push_cast [h4];exact dn (by push_cast [ze,zd,CLe,zf,e,qk])
end
section
open CA CB
open Go.RowKit
def Y7 (w:qR) (b:Lz) (l:List Lz):Prop:=(∀ x∈l.take 20,x.length<=1000)/\okW w/\w.fs.next<549755813888/\Jm w.kept<536870912/\Z7 w.fs b []=true/\Yh b=true/\l.length<=6
instance (w:qR) (b:Lz) (l:List Lz):Decidable (Y7 w b l):=by unfold Y7;infer_instance
theorem zce (w:qR) (b:Lz) (l:List Lz) (hb:b.length<=2000000):Fun Tryz.prog G0 9 [XX w,.str b,.sl 1 (zF l)] (qM (decide (Y7 w b l))) 0:=by
 have hll:(zF l).length=l.length:=We ..;have hpl:=Uk b hb;unfold YN at hpl;have hok:=zeF w;have hsh:=zdH w.fs b [];refine fon Tryz.func9 ?_;dsimp only[Tryz.f9];push_cast;refine cl hpl ?_;push_cast;refine loop (fun i:Nat=>⟨[(1,.str b),(2,.sl 1 (zF l)),(3,.ptr 0 0),(8,.sc (.bool (Yh b))),(9,.sc (.int .i64 i))],[Mi w],0,0⟩) (fun i=>i<=l.length/\i<=20/\∀ x∈l.take i,x.length<=1000) (fun i=>l.length-i) 0 ⟨Wc _,Wc _,fun x hx=>by rw[Oy]at hx;cases hx⟩ ?_ ?_
 ·exact wk
 rintro i ⟨h1,h2,h3⟩;by_cases hi:i<l.length
 ·have hi':=eq_true (show (i:Int)<l.length by omega);by_cases h20:i<20
  ·have h20':=eq_true (show (i:Int)<20 by omega);have hgi:(zF l)[i]?=some [.str l[i]]:=by simp[zF,hi]
   have ht:l.take (i+1)=l.take i++[l[i]]:=OV hi;by_cases hx:l[i].length<=1000
   ·have hx':=WH (show ¬(1000:Int)<l[i].length by omega);push_cast [hi',h20',hgi,hll,hx',Oz]
    repeat refine an ?_
    exact ⟨i+1,⟨by omega,by omega,fun x hm=>by
     rw[ht]at hm;rcases WG.1 hm with hm | hm
     ·exact h3 x hm
     ·rw[Ob.1 hm];exact hx⟩,by omega,wk⟩
   ·have hx':=eq_true (show (1000:Int)<l[i].length by omega);have hn:¬Y7 w b l:=fun h=>hx (h.1 _ (AJ.2 ⟨i,by omega,rfl⟩));push_cast [hi',h20',hgi,hll,hx',Oz]
    repeat refine an ?_
    exact dn (by push_cast [ze,zd,CLe,zf,hn])
  ·have h20':=WH (show ¬(i:Int)<20 by omega);have hx:∀ x∈l.take 20,x.length<=1000:=by rw[show i=20 by omega]at h3;exact h3
   by_cases k1:okW w
   case neg =>
    have hn:¬Y7 w b l:=fun h=>k1 h.2.1;rw[Wp k1]at hok;push_cast [hi',h20',hll];refine cl hok ?_;push_cast;exact dn (by push_cast [ze,zd,CLe,zf,hn])
   rw[Wo k1]at hok;have hs:=k1.2.2.2.2.1;have hla:=UR (G:=G0) w (by have:=(ziM k1).klen;omega) hs.1 hs.2;by_cases k2:w.fs.next<549755813888
   case neg =>
    have hn:¬Y7 w b l:=fun h=>k2 h.2.2.1;have k2':=WH k2;push_cast [hi',h20',hll];refine cl hok ?_;push_cast [k2'];exact dn (by push_cast [ze,zd,CLe,zf,hn])
   have k2':=eq_true k2;by_cases k3:Jm w.kept<536870912
   case neg =>
    have hn:¬Y7 w b l:=fun h=>k3 h.2.2.2.1;have k3':=WH k3;push_cast [hi',h20',hll];refine cl hok ?_;push_cast [k2'];refine cl hla ?_;push_cast [k3'];exact dn (by push_cast [ze,zd,CLe,zf,hn])
   have k3':=eq_true k3;cases k4:Z7 w.fs b []
   case false =>
    have hn:¬Y7 w b l:=fun h=>by rw[h.2.2.2.2.1]at k4;cases k4
    rw[k4]at hsh;push_cast [hi',h20',hll];refine cl hok ?_;push_cast [k2'];refine cl hla ?_;push_cast [k3'];refine cl hsh ?_;push_cast;exact dn (by push_cast [ze,zd,CLe,zf,hn])
   rw[k4]at hsh;cases k5:Yh b
   case false =>
    have hn:¬Y7 w b l:=fun h=>by rw[h.2.2.2.2.2.1]at k5;cases k5
    push_cast [hi',h20',hll];refine cl hok ?_;push_cast [k2'];refine cl hla ?_;push_cast [k3'];refine cl hsh ?_;push_cast;exact dn (by push_cast [ze,zd,CLe,zf,hn])
   by_cases k6:l.length<=6
   ·have hn:Y7 w b l:=⟨hx,k1,k2,k3,k4,k5,k6⟩;have k6':=eq_true (show (l.length:Int)<=6 by omega);push_cast [hi',h20',hll];refine cl hok ?_;push_cast [k2'];refine cl hla ?_;push_cast [k3'];refine cl hsh ?_;push_cast [hll,k6'];exact dn (by push_cast [ze,zd,CLe,zf,hn])
   ·have hn:¬Y7 w b l:=fun h=>k6 h.2.2.2.2.2.2;have k6':=WH (show ¬(l.length:Int)<=6 by omega);push_cast [hi',h20',hll];refine cl hok ?_;push_cast [k2'];refine cl hla ?_;push_cast [k3'];refine cl hsh ?_;push_cast [hll,k6'];exact dn (by push_cast [ze,zd,CLe,zf,hn])
 ·have hi':=WH (show ¬(i:Int)<l.length by omega);have hx:∀ x∈l.take 20,x.length<=1000:=by
   rw[show i=l.length by omega,Of]at h3;exact fun x hm=>h3 x (Ww hm)
  by_cases k1:okW w
  case neg =>
   have hn:¬Y7 w b l:=fun h=>k1 h.2.1;rw[Wp k1]at hok;push_cast [hi',hll];refine cl hok ?_;push_cast;exact dn (by push_cast [ze,zd,CLe,zf,hn])
  rw[Wo k1]at hok;have hs:=k1.2.2.2.2.1;have hla:=UR (G:=G0) w (by have:=(ziM k1).klen;omega) hs.1 hs.2;by_cases k2:w.fs.next<549755813888
  case neg =>
   have hn:¬Y7 w b l:=fun h=>k2 h.2.2.1;have k2':=WH k2;push_cast [hi',hll];refine cl hok ?_;push_cast [k2'];exact dn (by push_cast [ze,zd,CLe,zf,hn])
  have k2':=eq_true k2;by_cases k3:Jm w.kept<536870912
  case neg =>
   have hn:¬Y7 w b l:=fun h=>k3 h.2.2.2.1;have k3':=WH k3;push_cast [hi',hll];refine cl hok ?_;push_cast [k2'];refine cl hla ?_;push_cast [k3'];exact dn (by push_cast [ze,zd,CLe,zf,hn])
  have k3':=eq_true k3;cases k4:Z7 w.fs b []
  case false =>
   have hn:¬Y7 w b l:=fun h=>by rw[h.2.2.2.2.1]at k4;cases k4
   rw[k4]at hsh;push_cast [hi',hll];refine cl hok ?_;push_cast [k2'];refine cl hla ?_;push_cast [k3'];refine cl hsh ?_;push_cast;exact dn (by push_cast [ze,zd,CLe,zf,hn])
  rw[k4]at hsh;cases k5:Yh b
  case false =>
   have hn:¬Y7 w b l:=fun h=>by rw[h.2.2.2.2.2.1]at k5;cases k5
   push_cast [hi',hll];refine cl hok ?_;push_cast [k2'];refine cl hla ?_;push_cast [k3'];refine cl hsh ?_;push_cast;exact dn (by push_cast [ze,zd,CLe,zf,hn])
  by_cases k6:l.length<=6
  ·have hn:Y7 w b l:=⟨hx,k1,k2,k3,k4,k5,k6⟩;have k6':=eq_true (show (l.length:Int)<=6 by omega);push_cast [hi',hll];refine cl hok ?_;push_cast [k2'];refine cl hla ?_;push_cast [k3'];refine cl hsh ?_;push_cast [hll,k6'];exact dn (by push_cast [ze,zd,CLe,zf,hn])
  ·have hn:¬Y7 w b l:=fun h=>k6 h.2.2.2.2.2.2;have k6':=WH (show ¬(l.length:Int)<=6 by omega);push_cast [hi',hll];refine cl hok ?_;push_cast [k2'];refine cl hla ?_;push_cast [k3'];refine cl hsh ?_;push_cast [hll,k6'];exact dn (by push_cast [ze,zd,CLe,zf,hn])
theorem zjf (k:Int) (l:List Lz) (hk:k=1∨k=2∨k=3∨k=4∨k=5) (hl:l.length<=90) (hs:∀ x∈l,x.length<=1000):Fun Tryz.prog G0 10 [.sc (.int .i64 k),.sl 1 (zF l)] (.tup [zs3 (X2 (JQ k :: l)).1,qM (decide ((X2 (JQ k :: l)).2 = []))]) 1:=by
 have hn:=xO k;have hll:(zF l).length=l.length:=We ..;have hr:=zg6 (JQ k :: l) (by rw[Wg];omega) (fun x hx=>by
  rcases WK.1 hx with rfl | hx
  ·rcases hk with rfl | rfl | rfl | rfl | rfl<;>decide
  ·exact hs x hx)
 have e:zF (JQ k :: l) = [.str (JQ k)] :: zF l:=rfl;rw[e]at hr;refine fof (fun i=>if i=1 then J4 9 10 else if i=2 then [false,false,false,true] else []) Tryz.func10 ?_;dsimp only[Tryz.f10];push_cast;refine cl hn ?_;push_cast
 repeat refine an ?_
 refine cl hr ?_;push_cast;exact ⟨[.inl 1],rfl,rfl,by push_cast [ze,zd,CLe,zf]⟩
end
section
theorem zkS (k:Int) (s:Lz):(Y6 k s 58).length<=58:=by
 unfold Y6;refine WM (OH _ _) ?_;simp
theorem yL (l:List Lz):(X2 l).1.opts.length<=58/\(X2 l).1.operands.length<=l.length/\∀ x∈(X2 l).1.operands,x∈l:=by
 refine ⟨?_,zhD l,?_⟩
 ·cases l with
  | nil=>exact Wc _
  | cons w r =>
   rw[X2];split
   ·exact Wc _
   ·unfold JF;split
    ·exact Wc _
    ·split
     ·exact Wc _
     ·exact zkS _ _
 ·cases l with
  | nil=>intro x hx;cases hx
  | cons w r =>
   rw[X2];split
   ·intro x hx;cases hx
   ·unfold JF;split
    ·intro x hx;cases hx
    ·split
     ·intro x hx;cases hx
     ·exact fun x hx=>Wl _ (WU hx)
theorem zai {w:qR} (h:Y7 w b l):HB w.fs.xs/\b.length<=1000:=by
 have hs:=h.2.2.2.2.1;have hl:=(ziM h.2.1).len;unfold Z7 at hs;simp only[Wt,W8,Ar,Om]at hs;obtain ⟨⟨h1,h2⟩,_⟩:=hs;rw[Wh (by omega)]at h1;refine ⟨fun x hx hk=>?_,by omega⟩;have:=h1 x hx;unfold Ul at this;simp only[Wt,W8,not_and]at this;have:=this hk;omega
theorem Gm {w:qR} (h:Y7 w b l):∀ x∈l,x.length<=1000:=by
 have h1:=h.1;rw[Wh (by have:=h.2.2.2.2.2.2;omega)]at h1;exact h1
theorem zcD (w:Lz) (r:List Lz):(X2 (w :: r)).1.operands.length<=r.length:=by
 rw[X2];split
 ·exact Wc _
 ·unfold JF;split
  ·exact Wc _
  ·split
   ·exact Wc _
   ·show (r.drop _).length<=_;rw[WZ];omega
end
section
open CA CB
open Go.RowKit
def qp:qR:=⟨⟨9,9,9,[⟨1,2,0,[],1,[⟨[100],3⟩,⟨[102],4⟩]⟩,⟨3,2,1,[],1,[]⟩,⟨4,1,1,[122],0,[]⟩]⟩,[],[]⟩
theorem kK:okW qp:=by decide
theorem jK:GrD 0 (uN qp):=zlx kK (by
 intro x hx;have:∀ x∈qp.fs.xs,x.kind=3->x.data.length<=1000:=by decide
 exact this x hx) (by decide) (by decide)
theorem vl:Fun Tryz.prog G0 46 [] (XX qp) 0:=by
 have h1:=zid (G:=G0) 9 9;have h2:=zah (G:=G0) ⟨9,9,9,[⟨1,2,0,[],1,[]⟩]⟩ ⟨1,2,0,[],1,[⟨[100],3⟩,⟨[102],4⟩]⟩ (by decide);have h3:=zaq (G:=G0) ⟨9,9,9,[⟨1,2,0,[],1,[⟨[100],3⟩,⟨[102],4⟩]⟩]⟩ ⟨3,2,1,[],1,[]⟩ rfl (by decide);have h5:=zaq (G:=G0) ⟨9,9,9,[⟨1,2,0,[],1,[⟨[100],3⟩,⟨[102],4⟩]⟩,⟨3,2,1,[],1,[]⟩]⟩ ⟨4,1,1,[122],0,[]⟩ rfl (by decide);have e2:qv ⟨1,2,0,[],1,[⟨[100],3⟩,⟨[102],4⟩]⟩ [⟨1,2,0,[],1,[]⟩] = [⟨1,2,0,[],1,[⟨[100],3⟩,⟨[102],4⟩]⟩]:=by decide
 have e3:qv ⟨3,2,1,[],1,[]⟩ [⟨1,2,0,[],1,[⟨[100],3⟩,⟨[102],4⟩]⟩] = [⟨1,2,0,[],1,[⟨[100],3⟩,⟨[102],4⟩]⟩,⟨3,2,1,[],1,[]⟩]:=by decide
 have e5:qv ⟨4,1,1,[122],0,[]⟩ [⟨1,2,0,[],1,[⟨[100],3⟩,⟨[102],4⟩]⟩,⟨3,2,1,[],1,[]⟩]=qp.fs.xs:=by decide
 simp only[e2]at h2;simp only[e3]at h3;simp only[e5]at h5;refine fon Tryz.func46 ?_;dsimp only[Tryz.f46];push_cast;refine cl h1 ?_;push_cast;refine cl h2 ?_;push_cast;refine cl h3 ?_;push_cast;refine cl h5 ?_;push_cast;exact dn (by push_cast [ze,zd,CLe,zf,qp])
def tLn:List Lz:=[[108,110,58,32,34,100,34,58,32,104,97,114,100,32,108,105,110,107,32,110,111,116,32,97,108,108,111,119,101,100,32,102,111,114,32,100,105,114,101,99,116,111,114,121]]
theorem yS:Fun Tryz.prog GD 21 [] (qM true) 0:=by
 have q0:Fun Tryz.prog GD 46 [] (XX qp) 0:=vl.g0;have q1:Fun Tryz.prog GD 12 [XX qp] (Mp (uN qp)) 0:=(zgB qp (by decide) kK.2.2.2.2.1).g0;have q2:Fun Tryz.prog GD 24 [Mp (uN qp),.str [47],.agg [.sc (.int .i64 3),.str [],.sl 1 [[.str [102]],[.str [100]]]]] (Mp (zjU 3 [47] [] [[102],[100]] (uN qp))) 0:=kA 3 [47] [] [[102],[100]] jK (by decide) (by decide) (by decide) (by decide);have q3:Fun Tryz.prog GD 24 [Mp (uN qp),.str [47],.agg [.sc (.int .i64 3),.str [102,115],.sl 1 [[.str [120]],[.str [102]]]]] (Mp (zjU 3 [47] [102,115] [[120],[102]] (uN qp))) 0:=kA 3 [47] [102,115] [[120],[102]] jK (by decide) (by decide) (by decide) (by decide);have q4:Fun Tryz.prog GD 24 [Mp (uN qp),.str [47],.agg [.sc (.int .i64 3),.str [],.sl 1 [[.str [100]],[.str [120]]]]] (Mp (zjU 3 [47] [] [[100],[120]] (uN qp))) 0:=kA 3 [47] [] [[100],[120]] jK (by decide) (by decide) (by decide) (by decide);obtain ⟨dA,hA⟩:∃ d,zjU 3 [47] [] [[102],[100]] (uN qp)=d:=⟨_,rfl⟩;obtain ⟨dB,hB⟩:∃ d,zjU 3 [47] [102,115] [[120],[102]] (uN qp)=d:=⟨_,rfl⟩;obtain ⟨dC,hC⟩:∃ d,zjU 3 [47] [] [[100],[120]] (uN qp)=d:=⟨_,rfl⟩;have p1:dA.ops = [⟨5,0,[47,102],[47,100,47,102],[]⟩]:=by rw[←hA];kernel_rfl
 have p2:dB.ops = [⟨7,1,[47,102],[],[]⟩,⟨4,0,[47,102],[],[120]⟩]:=by rw[←hB];kernel_rfl
 have p4:dC.diags=tLn:=by rw[←hC];kernel_rfl
 rw[hA]at q2;rw[hB]at q3;rw[hC]at q4;have q5:Fun Tryz.prog GD 26 [.sl 5 (dA.ops.map opL),.sl 5 [opL ⟨5,0,[47,102],[47,100,47,102],[]⟩]] (qM true) 0:=by
  have h:=xQ dA.ops [⟨5,0,[47,102],[47,100,47,102],[]⟩] (by rw[p1];decide);rw[show J5 dA.ops [⟨5,0,[47,102],[47,100,47,102],[]⟩]=true by rw[p1];rfl]at h;exact h.g0
 have q6:Fun Tryz.prog GD 26 [.sl 5 (dB.ops.map opL),.sl 5 [opL ⟨7,1,[47,102],[],[]⟩,opL ⟨4,0,[47,102],[],[120]⟩]] (qM true) 0:=by
  have h:=xQ dB.ops [⟨7,1,[47,102],[],[]⟩,⟨4,0,[47,102],[],[120]⟩] (by rw[p2];decide);rw[show J5 dB.ops [⟨7,1,[47,102],[],[]⟩,⟨4,0,[47,102],[],[120]⟩]=true by rw[p2];rfl]at h;exact h.g0
 have q8:Fun Tryz.prog GD 15 [.sl 1 (zF dC.diags),.sl 1 (zF tLn)] (qM true) 0:=by
  have h:=NZ dC.diags tLn (by rw[p4];decide);rw[Wo p4]at h;exact h.g0
 have hS:=(jK.s (by decide)).ws.fs;have hP1:Fun Tryz.prog GD 22 [.agg (fsC qp.fs),.str [47],.agg (zbV 4 [] [[97,47,98,47],[99],[100,47]])] (.tup [.sl 1 (zF [[100,47,98],[100,47,99]]),.sc (.bool true)]) 0:=by
  have h:=QK qp.fs jK.b.wi.fs jK.r.fs hS jK.dat [47] (by decide) 4 [] [[97,47,98,47],[99],[100,47]] (by decide) (by decide);rw[show zR qp.fs [47] 4 [] [[97,47,98,47],[99],[100,47]]=some [[100,47,98],[100,47,99]] by kernel_rfl]at h;exact h.g0
 have hP2:Fun Tryz.prog GD 22 [.agg (fsC qp.fs),.str [47],.agg (zbV 4 [] [[97],[98],[102]])] (.tup [.sl 1 (zF []),.sc (.bool false)]) 0:=by
  have h:=QK qp.fs jK.b.wi.fs jK.r.fs hS jK.dat [47] (by decide) 4 [] [[97],[98],[102]] (by decide) (by decide);rw[show zR qp.fs [47] 4 [] [[97],[98],[102]]=none by kernel_rfl]at h;exact h.g0
 have q9:Fun Tryz.prog GD 15 [.sl 1 (zF [[100,47,98],[100,47,99]]),.sl 1 (zF [[100,47,98],[100,47,99]])] (qM true) 0:=by
  have h:=NZ [[100,47,98],[100,47,99]] [[100,47,98],[100,47,99]] (by decide);rw[Wo rfl]at h;exact h.g0
 clear hA hB hC p1 p2 p4;refine fon Tryz.func21 ?_;dsimp only[Tryz.f21];push_cast;refine cl q0 ?_;push_cast;refine cl q1 ?_;push_cast;refine cl q2 ?_;push_cast;refine cl q1 ?_;push_cast;refine cl q3 ?_;push_cast;refine cl q1 ?_;push_cast;refine cl q4 ?_;push_cast;refine cl hP1 ?_;push_cast;refine cl hP2 ?_;push_cast;refine cl q5 ?_;push_cast;refine cl q6 ?_;push_cast;refine cl q8 ?_;push_cast;refine cl q9 ?_;push_cast;exact dn
end
section
open CA CB
open Go.RowKit
theorem zkf (f:FsV) (hf:FsI f) (hs:FsS f) (b p:Lz) (hb:b.length<=100000) (hp:p.length<=100000):Fun Tryz.prog G0 51 [.agg (fsC f),.str b,.str p] (.sc (.bool (Q7 f b p))) 0:=by
 have hsk:=ME f hf hs b p true hb hp;have hg:=j5 (G:=G0) f (zx f b p true).1.ino (by have:=hs.len;omega);have e:Q7 f b p=(decide ((zx f b p true).2=0)&&decide ((zg (zx f b p true).1.ino f.xs).kind=2)):=rfl;have hno:=zbq (f:=f) (b:=b) (p:=p);by_cases h1:(zx f b p true).2=0
 ·have h1':=eq_true h1;rw[Wo h1,Ol]at e;cases hh:zk (zx f b p true).1.ino f.xs with
  | false =>
   rw[hh]at hg;rw[hno hh];refine fon Tryz.func51 ?_;dsimp only[Tryz.f51];push_cast;refine cl hsk ?_;push_cast [h1'];refine cl hg ?_;push_cast [h1'];exact dn
  | true =>
   rw[hh]at hg;rw[e];refine fon Tryz.func51 ?_;dsimp only[Tryz.f51];push_cast;refine cl hsk ?_;push_cast [h1'];refine cl hg ?_;push_cast [h1'];exact dn
 ·have h1':=WH h1;rw[Wp h1,Oa]at e;rw[e];refine fon Tryz.func51 ?_;dsimp only[Tryz.f51];push_cast;refine cl hsk ?_;push_cast [h1'];refine cl hg ?_;push_cast [h1'];exact dn
theorem zaQ (p:Lz):zm p = []->Lib.hasPrefix p [47] = !decide (p = []):=zb7 p
theorem vQ (f:FsV) (hf:FsI f) (hs:FsS f) (b:Lz) (hb:b.length<=100000) (k:Int) (o:Lz) (ho:o.length<=1000) (ops:List Lz) (hn:ops.length<=1000) (hp:∀ x∈ops,x.length<=1000):Fun Tryz.prog G0 23 [.agg (fsC f),.str b,.agg (zbV k o ops)] (.tup [.sl 1 (zF ((zR f b k o ops).getD [])),.sc (.bool (zR f b k o ops).isSome)]) 0:=by
 have hll:(zF ops).length=ops.length:=We ..;by_cases c1:ops.length=1
 ·have c1':=eq_true (show (ops.length:Int)=1 by omega);obtain ⟨p,rfl⟩:=BD.1 c1;have e:zR f b k o [p]=some [J7 p]:=rfl;have hba:=kE p (by have:=hp p Wk;omega) (zaQ p);rw[e];refine fof (fun i=>if i=7 then J4 12 13 else if i=16 then [false,false,false,false,false,false,false,false,false,false,false,false,false,false,false,true] else []) Tryz.func23 ?_;dsimp only[Tryz.f23];push_cast [zF,Wm,Wv,Wg,Wz]
  repeat refine an ?_
  refine cl hba ?_;push_cast;exact dn (by push_cast [ze,zd,CLe,zf,W5,OQ,zF,Wm,Wv])
 have c1':=WH (show ¬(ops.length:Int)=1 by omega);have h84:=ZP o 84 (by omega);have h110:=ZP o 110 (by omega);have e0:Hh f b k o ops=(!decide (ops.length<2)&&!decide ((84:UInt8)∈o)&&!Gb f b k o (ops.getLastD [])&&Q7 f b (ops.getLastD [])):=rfl;by_cases c2:2<=ops.length
 case neg =>
  have c2':=WH (show ¬(2:Int)<=ops.length by omega);rw[Wo (by omega)]at e0;have ei:Hh f b k o ops=false:=by rw[e0];rfl
  by_cases c9:ops.length=2
  ·have c9':=eq_true (show (ops.length:Int)=2 by omega);have ep:zR f b k o ops=some [ops.getLastD []]:=by unfold zR;rw[if_neg c1,if_neg (by rw[ei];decide),if_pos c9]
   have hla1:(zF ops)[1]?=some [.str (ops.getLastD [])]:=by rw[Ws,show (1:Nat)=ops.length-1 by omega,Yj (by omega)];rfl
   rw[ep];refine fof (fun i=>if i=7 then J4 12 13 else if i=16 then [false,false,false,false,false,false,false,false,false,false,false,false,false,false,false,true] else []) Tryz.func23 ?_;dsimp only[Tryz.f23];push_cast [hll,c1',c2'];push_cast [c9',hll,hla1]
   repeat refine an ?_
   exact dn (by push_cast [ze,zd,CLe,zf,W5,OQ,zF,Wm,Wv])
  ·have c9':=WH (show ¬(ops.length:Int)=2 by omega);have ep:zR f b k o ops=none:=by unfold zR;rw[if_neg c1,if_neg (by rw[ei];decide),if_neg c9]
   rw[ep];refine fof (fun i=>if i=7 then J4 12 13 else if i=16 then [false,false,false,false,false,false,false,false,false,false,false,false,false,false,false,true] else []) Tryz.func23 ?_;dsimp only[Tryz.f23];push_cast [hll,c1',c2'];push_cast [c9',hll];exact dn (by push_cast [ze,zd,CLe,zf,ON,Aw,zF,Wv])
 have c2':=eq_true (show (2:Int)<=ops.length by omega);rw[Wp (by omega),O8,Ol]at e0;by_cases c8:(84:UInt8)∈o
 ·rw[Wo c8]at e0 h84;have ei:Hh f b k o ops=false:=by rw[e0];rfl
  by_cases c9:ops.length=2
  ·have c9':=eq_true (show (ops.length:Int)=2 by omega);have ep:zR f b k o ops=some [ops.getLastD []]:=by unfold zR;rw[if_neg c1,if_neg (by rw[ei];decide),if_pos c9]
   have hla1:(zF ops)[1]?=some [.str (ops.getLastD [])]:=by rw[Ws,show (1:Nat)=ops.length-1 by omega,Yj (by omega)];rfl
   rw[ep];refine fof (fun i=>if i=7 then J4 12 13 else if i=16 then [false,false,false,false,false,false,false,false,false,false,false,false,false,false,false,true] else []) Tryz.func23 ?_;dsimp only[Tryz.f23];push_cast [hll,c1',c2'];refine cl h84 ?_;push_cast [c2'];push_cast [c9',hll,hla1]
   repeat refine an ?_
   exact dn (by push_cast [ze,zd,CLe,zf,W5,OQ,zF,Wm,Wv])
  ·have c9':=WH (show ¬(ops.length:Int)=2 by omega);have ep:zR f b k o ops=none:=by unfold zR;rw[if_neg c1,if_neg (by rw[ei];decide),if_neg c9]
   rw[ep];refine fof (fun i=>if i=7 then J4 12 13 else if i=16 then [false,false,false,false,false,false,false,false,false,false,false,false,false,false,false,true] else []) Tryz.func23 ?_;dsimp only[Tryz.f23];push_cast [hll,c1',c2'];refine cl h84 ?_;push_cast [c2'];push_cast [c9',hll];exact dn (by push_cast [ze,zd,CLe,zf,ON,Aw,zF,Wv])
 rw[Wp c8]at e0 h84;rw[O8,Ol]at e0;have hlg:=Yj (ops:=ops) (by omega);have hla:(zF ops)[ops.length-1]?=some [.str (ops.getLastD [])]:=by rw[Ws,hlg];rfl
 have hlx:((ops.length:Int)-1).toNat=ops.length-1:=by omega
 have hl2:(ops.getLastD []).length<=1000:=hp _ (Wf hlg);have hdi:=zkf f hf hs b (ops.getLastD []) hb (by omega);have hsk:=ME f hf hs b (ops.getLastD []) false hb (by omega);have hg:=j5 (G:=G0) f (zx f b (ops.getLastD []) false).1.ino (by have:=hs.len;omega);have el:Gb f b k o (ops.getLastD [])=(decide (k=3)&&decide ((110:UInt8)∈o)&&decide ((zx f b (ops.getLastD []) false).2=0)&&decide ((zg (zx f b (ops.getLastD []) false).1.ino f.xs).kind=3)):=rfl;clear hlg;generalize zx f b (ops.getLastD []) false=S at *;generalize zg S.1.ino f.xs=X at *;generalize Gb f b k o (ops.getLastD [])=lk at *;have hcase:(lk=false/\(k≠3∨(k=3/\(110:UInt8)∉o)∨(k=3/\(110:UInt8)∈o/\S.2≠0)∨(k=3/\(110:UInt8)∈o/\S.2=0/\X.kind≠3)))∨(lk=true/\k=3/\(110:UInt8)∈o/\S.2=0/\X.kind=3):=by
  rw[el];by_cases x1:k=3<;>by_cases x2:(110:UInt8)∈o<;>by_cases x3:S.2=0<;>by_cases x4:X.kind=3<;>simp[x1,x2,x3,x4]
 clear el;rcases hcase with ⟨hL,hc⟩ | ⟨hL,d1,d2,d3,d4⟩
 case inr =>
  rw[hL]at e0;have ei:Hh f b k o ops=false:=by rw[e0];rfl
  have c3':=eq_true d1;have c5':=eq_true d3;have c7':=eq_true d4;rw[Wo d2]at h110;by_cases c9:ops.length=2
  ·have c9':=eq_true (show (ops.length:Int)=2 by omega);have ep:zR f b k o ops=some [ops.getLastD []]:=by unfold zR;rw[if_neg c1,if_neg (by rw[ei];decide),if_pos c9]
   have hla1:(zF ops)[1]?=some [.str (ops.getLastD [])]:=by rw[Ws,show (1:Nat)=ops.length-1 by omega,Yj (by omega)];rfl
   rw[ep];refine fof (fun i=>if i=7 then J4 12 13 else if i=16 then [false,false,false,false,false,false,false,false,false,false,false,false,false,false,false,true] else []) Tryz.func23 ?_;dsimp only[Tryz.f23];push_cast [hll,c1',c2'];refine cl h84 ?_;push_cast [hll,hla,hlx,c2']
   repeat refine an ?_
   refine cl hdi ?_;push_cast [hll,hla,hlx]
   repeat refine an ?_
   refine cl hsk ?_;push_cast [c3',c5'];refine cl hg ?_;push_cast [c3',c5',c7']
   try (refine cl h110 ?_;push_cast [c3',c5',c7'])
   push_cast [c9',hll,hla1]
   repeat refine an ?_
   exact dn (by push_cast [ze,zd,CLe,zf,W5,OQ,zF,Wm,Wv])
  ·have c9':=WH (show ¬(ops.length:Int)=2 by omega);have ep:zR f b k o ops=none:=by unfold zR;rw[if_neg c1,if_neg (by rw[ei];decide),if_neg c9]
   rw[ep];refine fof (fun i=>if i=7 then J4 12 13 else if i=16 then [false,false,false,false,false,false,false,false,false,false,false,false,false,false,false,true] else []) Tryz.func23 ?_;dsimp only[Tryz.f23];push_cast [hll,c1',c2'];refine cl h84 ?_;push_cast [hll,hla,hlx,c2']
   repeat refine an ?_
   refine cl hdi ?_;push_cast [hll,hla,hlx]
   repeat refine an ?_
   refine cl hsk ?_;push_cast [c3',c5'];refine cl hg ?_;push_cast [c3',c5',c7']
   try (refine cl h110 ?_;push_cast [c3',c5',c7'])
   push_cast [c9',hll];exact dn (by push_cast [ze,zd,CLe,zf,ON,Aw,zF,Wv])
 rw[hL,O8,Ol]at e0;cases hD:Q7 f b (ops.getLastD []) with
 | false =>
  rw[hD]at e0 hdi;have ei:Hh f b k o ops=false:=e0;rcases hc with d1 | ⟨d1,d2⟩ | ⟨d1,d2,d3⟩ | ⟨d1,d2,d3,d4⟩
  all_goals
   have c3':(k=3)=(k=3):=rfl;have c5':(S.2=0)=(S.2=0):=rfl;have c7':(X.kind=3)=(X.kind=3):=rfl
   try (have c3':=eq_true d1)
   try (have c3':=WH d1)
   try (rw[Wo d2]at h110)
   try (rw[Wp d2]at h110)
   try (have c5':=eq_true d3)
   try (have c5':=WH d3)
   try (have c7':=WH d4)
   by_cases c9:ops.length=2
   ·have c9':=eq_true (show (ops.length:Int)=2 by omega);have ep:zR f b k o ops=some [ops.getLastD []]:=by unfold zR;rw[if_neg c1,if_neg (by rw[ei];decide),if_pos c9]
    have hla1:(zF ops)[1]?=some [.str (ops.getLastD [])]:=by rw[Ws,show (1:Nat)=ops.length-1 by omega,Yj (by omega)];rfl
    rw[ep];refine fof (fun i=>if i=7 then J4 12 13 else if i=16 then [false,false,false,false,false,false,false,false,false,false,false,false,false,false,false,true] else []) Tryz.func23 ?_;dsimp only[Tryz.f23];push_cast [hll,c1',c2'];refine cl h84 ?_;push_cast [hll,hla,hlx,c2']
    repeat refine an ?_
    refine cl hdi ?_;push_cast [hll,hla,hlx]
    repeat refine an ?_
    refine cl hsk ?_;push_cast [c3',c5'];refine cl hg ?_;push_cast [c3',c5',c7']
    try (refine cl h110 ?_;push_cast [c3',c5',c7'])
    push_cast [c9',hll,hla1]
    repeat refine an ?_
    exact dn (by push_cast [ze,zd,CLe,zf,W5,OQ,zF,Wm,Wv])
   ·have c9':=WH (show ¬(ops.length:Int)=2 by omega);have ep:zR f b k o ops=none:=by unfold zR;rw[if_neg c1,if_neg (by rw[ei];decide),if_neg c9]
    rw[ep];refine fof (fun i=>if i=7 then J4 12 13 else if i=16 then [false,false,false,false,false,false,false,false,false,false,false,false,false,false,false,true] else []) Tryz.func23 ?_;dsimp only[Tryz.f23];push_cast [hll,c1',c2'];refine cl h84 ?_;push_cast [hll,hla,hlx,c2']
    repeat refine an ?_
    refine cl hdi ?_;push_cast [hll,hla,hlx]
    repeat refine an ?_
    refine cl hsk ?_;push_cast [c3',c5'];refine cl hg ?_;push_cast [c3',c5',c7']
    try (refine cl h110 ?_;push_cast [c3',c5',c7'])
    push_cast [c9',hll];exact dn (by push_cast [ze,zd,CLe,zf,ON,Aw,zF,Wv])
 | true =>
  rw[hD]at e0 hdi;have ei:Hh f b k o ops=true:=e0;have ep:zR f b k o ops=some (ops.dropLast.map fun p=>J0 (ops.getLastD []) (J7 p)):=by unfold zR;rw[if_neg c1,if_pos ei]
  have hpd:∀ x∈ops.dropLast,x.length<=1000:=fun x hx=>hp x (BK _ hx);have hdn:ops.dropLast.length=ops.length-1:=List.length_dropLast;have hgd:∀ i (h:i<ops.dropLast.length),(zF ops)[i]?=some [.str ops.dropLast[i]]:=fun i h=>by
   rw[Ws,Wa (by omega),List.getElem_dropLast];rfl
  rw[ep];generalize ops.getLastD []=z at *;generalize ops.dropLast=dl at *;rcases hc with d1 | ⟨d1,d2⟩ | ⟨d1,d2,d3⟩ | ⟨d1,d2,d3,d4⟩
  all_goals
   have c3':(k=3)=(k=3):=rfl;have c5':(S.2=0)=(S.2=0):=rfl;have c7':(X.kind=3)=(X.kind=3):=rfl
   try (have c3':=eq_true d1)
   try (have c3':=WH d1)
   try (rw[Wo d2]at h110)
   try (rw[Wp d2]at h110)
   try (have c5':=eq_true d3)
   try (have c5':=WH d3)
   try (have c7':=WH d4)
   refine fof (fun i=>if i=7 then J4 12 13 else if i=16 then [false,false,false,false,false,false,false,false,false,false,false,false,false,false,false,true] else []) Tryz.func23 ?_;dsimp only[Tryz.f23];push_cast [hll,c1',c2'];refine cl h84 ?_;push_cast [hll,hla,hlx,c2']
   repeat refine an ?_
   refine cl hdi ?_;push_cast [hll,hla,hlx]
   repeat refine an ?_
   refine cl hsk ?_;push_cast [c3',c5'];refine cl hg ?_;push_cast [c3',c5',c7']
   try (refine cl h110 ?_;push_cast [c3',c5',c7'])
   push_cast [hll];refine loop (fun i:Nat=>⟨[(5,.ptr 1 0),(8,.sc (.int .i64 (ops.length:Nat))),(14,.own 0 9 1 (zF ((dl.take i).map fun p=>J0 z (J7 p)))),(15,.sc (.int .i64 i))],[[.any,.any,.any,.any],zbV k o ops],1,0⟩) (fun i=>i<=dl.length) (fun i=>dl.length-i) 0 (Wc _) ?_ ?_
   ·exact wks [.inr (9,1)] (h4:=by push_cast [ze,zd,CLe,zf,Oy,Wv,zF])
   intro i hi;by_cases hlt:i<dl.length
   ·have hlt':=eq_true (show (i:Int)+1<ops.length by omega);have hgi:(zF ops)[i]?=some [.str dl[i]]:=hgd i hlt;have hx:=hpd _ (Wx hlt);have ht:zF ((dl.take (i+1)).map fun p=>J0 z (J7 p))=zF ((dl.take i).map fun p=>J0 z (J7 p))++[[.str (J0 z (J7 dl[i]))]]:=by
     rw[OV hlt,W9];exact W9
    generalize dl[i]=p at *;have hba:=kE p (by omega) (zaQ p);have hbl:=GT p;have hj:=zcb z (J7 p) (by omega) (by omega);have htl:(zF ((dl.take i).map fun p=>J0 z (J7 p))).length=i:=by simp[zF];omega
    push_cast [hlt',hgi,hll,hla,hlx,Oz]
    repeat refine an ?_
    refine cl hba ?_;push_cast [hgi,hll,hla,hlx,Oz]
    repeat refine an ?_
    refine cl hj ?_;push_cast [htl]
    repeat refine an ?_
    exact ⟨i+1,by omega,by omega,wks [.inl 0] (h4:=by push_cast [ze,zd,CLe,zf,ht])⟩
   ·have hlt':=WH (show ¬(i:Int)+1<ops.length by omega);have hil:i=dl.length:=by omega
    rw[hil]at hlt' ⊢;rw[Of];push_cast [hlt']
    repeat refine an ?_
    exact dn (by push_cast [ze,zd,CLe,zf,W5,OQ])
end
section
open CA CB
open Go.RowKit
theorem uY (w:qR) (b:Lz) (l:List Lz) (q:Nat) (hq:q<256) (k:Int) (hk:k=3∨k=4∨k=5) (e:3+((q:Int) % 3)=k) (hb:b.length<=2000000):Fun Tryz.prog GD 6 [XX w,.str b,.sl 1 (zF l),.sc (.int .u8 q)] (qM true) 0:=by
 have ha:=yS;have hf:Fun Tryz.prog GD 9 _ _ 0:=(zce w b l hb).g0;by_cases h:Y7 w b l
 case neg =>
  rw[Wp h]at hf;refine fon Tryz.func6 ?_;dsimp only[Tryz.f6];push_cast;refine cl ha ?_;push_cast;refine cl hf ?_;push_cast;refine cl ha ?_;push_cast;exact dn
 rw[Wo h]at hf;obtain ⟨_,d2⟩:=zai h;have h6:=h.2.2.2.2.2.2;obtain ⟨p1,p2,p3⟩:=yL (JQ k :: l);have ht:=zcD (JQ k) l;have hc:Fun Tryz.prog GD 10 _ _ 1:=(zjf k l (by omega) (by omega) (Gm h)).g0;have hp:∀ x∈(X2 (JQ k :: l)).1.operands,x.length<=1000:=fun x hx=>by
  rcases WK.1 (p3 x hx) with rfl | hx
  ·rcases hk with rfl | rfl | rfl<;>decide
  ·exact Gm h x hx
 have hwl:=zpP h.2.1;have hG:GrD 0 (uN w):=zlx h.2.1 (zai h).1 (by have:=h.2.2.1;omega) (by have:=h.2.2.2.1;omega);have hS:=(hG.s (by omega)).ws.fs;generalize X2 (JQ k :: l)=rc at *;obtain ⟨⟨ck,co,cz⟩,s⟩:=rc;dsimp only at hc hp p1 p2 ht;have hP:=(QK w.fs hG.b.wi.fs hG.r.fs hS hG.dat b (by omega) ck co cz (by omega) hp).g0 (G':=GD);have hR:=(vQ w.fs hG.b.wi.fs hS b (by omega) ck co (by omega) cz (by omega) hp).g0 (G':=GD);have hpf:((zR w.fs b ck co cz).getD []).length<=1000:=by
  cases hz:zR w.fs b ck co cz with
  | none=>exact Wc _
  | some ps=>have:=(GJ hz hp).1;show ps.length<=_;omega
 have hsm:Fun Tryz.prog GD 15 _ _ 0:=(NZ ((zR w.fs b ck co cz).getD []) ((zR w.fs b ck co cz).getD []) (by omega)).g0;rw[Wo rfl]at hsm;generalize (zR w.fs b ck co cz).getD []=L at *;generalize (zR w.fs b ck co cz).isSome=B at *;by_cases hs:s = []
 case neg =>
  rw[Wp hs]at hc;refine fon Tryz.func6 ?_;dsimp only[Tryz.f6];push_cast;refine cl ha ?_;push_cast;refine cl hf ?_;push_cast [e];refine ⟨⟨by omega,by omega⟩,by omega,⟨by omega,by omega⟩,?_⟩;refine cl hc ?_;push_cast;exact dn
 rw[Wo hs]at hc;cases B
 all_goals
  refine fon Tryz.func6 ?_;dsimp only[Tryz.f6];push_cast;refine cl ha ?_;push_cast;refine cl hf ?_;push_cast [e];refine ⟨⟨by omega,by omega⟩,by omega,⟨by omega,by omega⟩,?_⟩;refine cl hc ?_;push_cast;refine cl hP ?_;push_cast;refine cl hR ?_;push_cast;refine cl hsm ?_;push_cast;exact dn
theorem NK (w:qR) (b:Lz) (l:List Lz) (n:Int) (hw:(Lit.int .u8 n).wf=true) (hb:b.length<=2000000):Fun Tryz.prog GD 6 [XX w,.str b,.sl 1 (zF l),.sc (.int .u8 n)] (qM true) 0:=by
 have h:0<=n/\n<=255:=by simpa [Lit.wf,IntKind.min,IntKind.max,IntKind.signed,IntKind.bits] using hw
 obtain ⟨q,rfl⟩:∃ q:Nat,n=(q:Int):=⟨n.toNat,by omega⟩;exact uY w b l q (by omega) _ (by omega) rfl hb
end
end Go.Proofs.YtaipngaejfndgaaGreatDoor.Vcg
