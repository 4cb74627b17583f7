/- What the proof of MvsTrue leans on, part 6: Sek3 Rea Tol Plw Sk1 Sk3 Ply Do7 Do6 Plx Mvw Mvx Mvy Mvz Mvq Mvr Rfi Fit Mvb Mvs Mvt. No condition beyond what each theorem states. -/
import Derived.Test.YtnpdbhbmakdklaaGreatDoorMvsTrueKe
import Derived.Lib.IndexLaws
set_option linter.unusedVariables false
set_option linter.unusedSimpArgs false
set_option linter.unusedSectionVars false
set_option maxRecDepth 100000
set_option maxHeartbeats 4000000
namespace Go.Proofs.YtnpdbhbmakdklaaGreatDoor.Vcg
variable {f:FsV} {l:List Lz} {n N:Nat} {b:Lz} {d:zW}
section
open CA CB
open Go.RowKit
theorem ZM (f:FsV) (hf:FsI f) (hr:FsR f) (hs:FsS f) (hd:∀ x∈f.xs,x.kind=3->x.data.length<=1000) (b p:Lz) (fol:Bool) (hb:b.length<=100000) (hp:p.length<=3000):Fun Tryz.prog G0 99 [.agg (fsC f),.str b,.str p,.sc (.bool fol)] (.tup [.agg (jt (zq f b p fol).1),.sc (.int .i64 (zq f b p fol).2)]) 0:=by
 have hlo:=zaZ p (by omega);have hns:=qw p;have bad:∀ e:Int,e≠0->zq f b p fol=(qu,e)->Fun Tryz.prog G0 146 [.agg (fsC f),.str b,.str p,.sc (.bool fol)] (.tup [.any,.sc (.int .i64 e)]) 0->Fun Tryz.prog G0 99 [.agg (fsC f),.str b,.str p,.sc (.bool fol)] (.tup [.agg (jt (zq f b p fol).1),.sc (.int .i64 (zq f b p fol).2)]) 0:=fun e he hv hb=>by
  refine fon Tryz.func99 ?_;dsimp only[Tryz.f99];push_cast;refine cl hb ?_;push_cast [he];exact dn (by push_cast [ze,zd,CLe,zg,hv,qu])
 by_cases h1:p = []
 ·subst h1;refine bad 1 (by decide) (by unfold zq;rw[if_pos rfl]) ?_;refine fon Tryz.func146 ?_;dsimp only[Tryz.f146];push_cast;exact dn
 have h1':=Wu h1;cases h2:X7 p with
 | true =>
  rw[h2]at hlo;refine bad 7 (by decide) (by unfold zq;rw[if_neg h1,if_pos h2]) ?_;refine fon Tryz.func146 ?_;dsimp only[Tryz.f146];push_cast [h1'];refine cl hlo ?_;push_cast;exact dn
 | false =>
 rw[h2]at hlo;have hre:Fun Tryz.prog G0 125 [.str p] (.agg [qQ (kI p),.own 0 9 1 (zE (zn p)),qQ (qI p)]) 1:=UM p (by omega);have good:∀ h:Int,zq f b p fol=onN f fol 40 (zn p) ⟨0,[],h⟩ (qI p)->(h≠0->zk h f.xs=true)->YJ Tryz.prog G0 146 [.agg (fsC f),.str b,.str p,.sc (.bool fol)] [] 0 (fun r bx m=>m=0/\r = .tup [.ptr 2 0,.sc (.int .i64 0)]/\bx = [[.any,.any,.any,.any],[.any,.any,.any],zme f fol (qI p) (zn p) ⟨0,[],h⟩ (0:Nat)])->Fun Tryz.prog G0 99 [.agg (fsC f),.str b,.str p,.sc (.bool fol)] (.tup [.agg (jt (zq f b p fol).1),.sc (.int .i64 (zq f b p fol).2)]) 0:=fun h hv hh hbg=>by
  have hgo:=zeS f hf hr hs fol (qI p) (zn p) ⟨0,[],h⟩ (by omega) hd hh _ hv.symm;refine fon Tryz.func99 ?_;dsimp only[Tryz.f99];push_cast;refine ju [] [] hbg rfl (by decide) (by decide) (by simp) (by push_cast) rfl (fun r bx' m hp=>?_);obtain ⟨rfl,rfl,rfl⟩:=hp;push_cast;refine ju [4] [] hgo rfl (by decide) (by decide) (by simp) (by push_cast) rfl (fun r bx' m hp=>?_);obtain ⟨rfl,rfl,X,rfl⟩:=hp;push_cast;exact dn
 cases h3:kI p with
 | true =>
  rw[h3]at hre;refine good 1 (by unfold zq;rw[if_neg h1,if_neg (by rw[h2];decide),if_pos h3]) (fun _=>hf.root) ?_;refine foX (fun _=>[]) Tryz.func146 ?_;dsimp only[Tryz.f146];push_cast [h1'];refine cl hlo ?_;push_cast;refine cl hre ?_;push_cast;exact ⟨_,[_,_,_],0,⟨⟨rfl,rfl,rfl⟩,Wc _⟩,[],rfl,rfl,by push_cast [ze,zd,CLe,zg],by push_cast [ze,zd,CLe,zg]⟩
 | false =>
  rw[h3]at hre;have hh:=zhB f hf hs b hb;by_cases h4:(Jz f b).2=0
  ·rw[h4]at hh;refine good (Jz f b).1 (by unfold zq;rw[if_neg h1,if_neg (by rw[h2];decide),if_neg (by rw[h3];decide),if_neg (fun q=>q h4)]) (fun hne=>?_) ?_
   ·unfold Jz at hne h4 ⊢;split at hne
    ·exact absurd rfl hne
    rename_i c1;rw[if_neg c1]at h4 ⊢;split at hne
    ·exact absurd rfl hne
    rename_i c2;rw[if_neg c2]at h4 ⊢;split at hne
    ·exact absurd rfl hne
    rename_i c3;rw[if_neg c3];have q:=Ja (Wy.1 c3);rw[(zj q).2.2];exact q
   ·refine foX (fun _=>[]) Tryz.func146 ?_;dsimp only[Tryz.f146];push_cast [h1'];refine cl hlo ?_;push_cast;refine cl hre ?_;push_cast;refine cl hh ?_;push_cast;exact ⟨_,[_,_,_],0,⟨⟨rfl,rfl,rfl⟩,Wc _⟩,[],rfl,rfl,by push_cast [ze,zd,CLe,zg],by push_cast [ze,zd,CLe,zg]⟩
  ·refine bad _ h4 (by unfold zq;rw[if_neg h1,if_neg (by rw[h2];decide),if_neg (by rw[h3];decide),if_pos h4]) ?_;refine fon Tryz.func146 ?_;dsimp only[Tryz.f146];push_cast [h1'];refine cl hlo ?_;push_cast;refine cl hre ?_;push_cast;refine cl hh ?_;push_cast [h4];exact dn
end
section
open CA CB
open Go.RowKit QuotePlain
abbrev u8C (b:UInt8):C:=.sc (.int .u8 (b.toNat:Int))
theorem GX (l:Lz) (c:UInt8):(Lib.indexByte l c<0)↔c∉l:=by
 constructor
 ·intro h hc;have h1:=Lib.indexByte_ge l c;obtain ⟨k,hk,e⟩:=WH hc;exact Lib.indexByte_none (show Lib.indexByte l c = -1 by omega) k (by rw[Wa hk,e])
 ·intro h;rcases Int.lt_or_le (Lib.indexByte l c) 0 with h1 | h1
  ·exact h1
  ·obtain ⟨o,ho⟩:∃ o:Nat,Lib.indexByte l c=o:=⟨(Lib.indexByte l c).toNat,by omega⟩;obtain ⟨h2,_⟩:=Lib.indexByte_some ho;exact absurd (Wg h2) h
theorem Za (s:Lz) (c:UInt8) (hs:s.length<=1000000):Fun Tryz.prog G0 66 [.str s,u8C c] (.sc (.bool (decide (c∈s)))) 0:=by
 refine fon Tryz.func66 ?_;dsimp only[Tryz.f66];push_cast;refine loop (fun k:Nat=>⟨[(0,.str s),(1,u8C c),(5,.sc (.int .i64 k))],[],0,0⟩) (fun k=>k<=s.length/\c∉s.take k) (fun k=>s.length-k) 0 ⟨Wc _,by simp⟩ ?_ ?_
 ·exact wk
 ·rintro k ⟨hk,hn⟩;push_cast;refine br (fun h=>?_) (fun h=>?_)
  ·have hk2:k<s.length:=by simp at h;omega
   have hg:s[k]?=some s[k]:=Wa hk2;push_cast [hg];refine ⟨by omega,br (fun h2=>?_) (fun h2=>?_)⟩
   ·push_cast;have h3:s[k]=c:=by simp at h2;exact Ao.1 (by omega)
    have h4:c∈s:=h3▸Wx hk2;exact dn (by push_cast [ze,zd,CLe,zg,h4])
   ·push_cast;have h3:¬c=s[k]:=fun e=>by subst e;simp at h2
    refine ⟨by omega,k+1,⟨by omega,?_⟩,by omega,wk⟩;intro h4;rw[WX,hg]at h4;rcases WF.1 h4 with h5 | h5
    ·exact hn h5
    ·simp at h5;exact h3 h5
  ·have hk2:k=s.length:=by simp at h;omega
   subst hk2;rw[Of]at hn;push_cast;exact dn (by push_cast [ze,zd,CLe,zg,hn])
theorem zad (k:Int) (o:Lz) (ops:C) (c:UInt8) (hops:ops.cellB=true):Fun Tryz.prog G0 98 [.agg [.sc (.int .i64 k),.str o,ops],u8C c] (.sc (.bool (decide (c∈o)))) 0:=by
 refine fon Tryz.func98 ?_;dsimp only[Tryz.f98];push_cast [hops];refine cl (Vo o c) ?_;push_cast;have e:decide (0<=Lib.indexByte o c)=decide (c∈o):=by
  have:=GX o c;by_cases h:c∈o
  ·have h2:¬Lib.indexByte o c<0:=fun h3=>this.1 h3 h;simp[h];omega
  ·have h2:=this.2 h;simp[h];omega
 exact dn (by push_cast [ze,zd,CLe,zg,e])
theorem zsI (c d:UInt8):((c.toNat:Int)=(d.toNat:Int))=(c=d):=by
 refine propext ⟨fun h=>Ao.1 (by omega),fun h=>by rw[h]⟩
def Qr (s p:Lz):UInt8:=s.foldl (fun c b=>if b∈p then b else c) 0
theorem GC (s p:Lz) (i:Nat) (hi:i<s.length):Qr (s.take (i+1)) p=if s[i]∈p then s[i] else Qr (s.take i) p:=by
 unfold Qr;rw[WX,Wa hi,BE];simp
theorem x6 (s p:Lz) (hs:s.length<=1000000) (hp:p.length<=1000000):Fun Tryz.prog G0 111 [.str s,.str p] (u8C (Qr s p)) 0:=by
 refine fon Tryz.func111 ?_;dsimp only[Tryz.f111];push_cast;refine loop (fun k:Nat=>⟨[(0,.str s),(1,.str p),(5,u8C (Qr (s.take k) p)),(6,.sc (.int .i64 k))],[],0,0⟩) (fun k=>k<=s.length) (fun k=>s.length-k) 0 (Wc _) ?_ ?_
 ·exact JW.mk [] rfl rfl (Wb _) rfl (by push_cast [ze,zd,CLe,zg]<;>rfl) (by push_cast [ze,zd,CLe,zg])
 ·rintro k hk;push_cast;refine br (fun h=>?_) (fun h=>?_)
  ·have hk2:k<s.length:=by simp at h;omega
   have hg:s[k]?=some s[k]:=Wa hk2;push_cast [hg];refine ⟨by omega,?_⟩;refine cl (Za p s[k] hp) ?_;push_cast;refine br (fun h2=>?_) (fun h2=>?_)
   ·push_cast [hg];have e:Qr (s.take (k+1)) p=s[k]:=by rw[GC s p k hk2,if_pos (by simpa using h2)]
    refine ⟨by omega,by omega,k+1,by omega,by omega,wk (by push_cast [ze,zd,CLe,zg,e])⟩
   ·push_cast [hg];have e:Qr (s.take (k+1)) p=Qr (s.take k) p:=by rw[GC s p k hk2,if_neg (by simpa using h2)]
    refine ⟨by omega,k+1,by omega,by omega,wk (by push_cast [ze,zd,CLe,zg,e])⟩
  ·have hk2:k=s.length:=by simp at h;omega
   subst hk2;rw[Of];push_cast;exact dn
def isO (k:Int) (s:Lz) (x:UInt8):Bool:=if 4<=k/\(x=102∨x=110) then decide (Qr s [102,110]=x) else if x=114 then decide (114∈s∨82∈s) else if x=82 then false else decide (x∈s)
def YF (k:Int) (s:Lz) (n:Nat):Lz:=((List.range' 65 n).map UInt8.ofNat).filter (isO k s)
theorem vX (k:Int) (s:Lz) (hs:s.length<=1000000):Fun Tryz.prog G0 65 [.sc (.int .i64 k),.str s] (.str (YF k s 58)) 0:=by
 refine fon Tryz.func65 ?_;dsimp only[Tryz.f65];push_cast;refine loop (fun j:Nat=>⟨[(0,.sc (.int .i64 k)),(1,.str s),(5,.str (YF k s j)),(6,.sc (.int .i64 (65+j)))],[],0,0⟩) (fun j=>j<=58) (fun j=>58-j) 0 (Wc _) ?_ ?_
 ·exact JW.mk [] rfl rfl (Wb _) rfl (by push_cast [ze,zd,CLe,zg]<;>rfl) (by push_cast [ze,zd,CLe,zg])
 ·rintro j hj;push_cast;refine br (fun h=>?_) (fun h=>?_)
  ·have hj2:j<58:=by simp at h;omega
   obtain ⟨x,hxe,hx⟩:∃ x:UInt8,UInt8.ofNat (65+j)=x/\(65+(j:Int))=(x.toNat:Int):=⟨_,rfl,by rw[UInt8.toNat_ofNat_of_lt' (by show 65+j<256;omega)];omega⟩;have hx1:65+((j:Int)+1)=(x.toNat:Int)+1:=by omega
   have hxb:(x.toNat:Int)<123:=by omega
   have hstep:YF k s (j+1)=YF k s j++if isO k s x then [x] else []:=by
    unfold YF;rw[List.range'_concat,WY,OR];simp only[Wo,Wv,Nat.one_mul,hxe,O5,List.filter_nil]
   have hlo:(YF k s j).length<=j:=WL (OG _ _) (by simp);have hI:∀ (n:Nat) (d:UInt8),d.toNat=n->((x.toNat:Int)=(n:Int))=(x=d):=fun n d h=>h▸zsI x d;have hcase:(x=82)∨(x=114)∨(x≠82/\x≠114/\¬4<=k)∨(x=102/\4<=k)∨(x=110/\4<=k)∨(x≠82/\x≠114/\4<=k/\x≠102/\x≠110):=by
    by_cases h1:x=82
    ·exact .inl h1
    ·by_cases h2:x=114
     ·exact .inr (.inl h2)
     ·by_cases h3:4<=k
      ·by_cases h4:x=102
       ·exact .inr (.inr (.inr (.inl ⟨h4,h3⟩)))
       ·by_cases h5:x=110
        ·exact .inr (.inr (.inr (.inr (.inl ⟨h5,h3⟩))))
        ·exact .inr (.inr (.inr (.inr (.inr ⟨h1,h2,h3,h4,h5⟩))))
      ·exact .inr (.inr (.inl ⟨h1,h2,h3⟩))
   clear hxe;rw[hx];push_cast;refine ⟨by omega,?_⟩;refine cl (Za s x hs) ?_;push_cast;rcases hcase with hc | hc | hc | hc | hc | hc
   ·have f0:isO k s x=false:=by simp[isO,hc]
    have e:YF k s (j+1)=YF k s j:=by rw[hstep,f0];simp
    have f1:((x.toNat:Int)=82)=True:=(hI 82 82 rfl).trans (by simp[hc]);have f2:((x.toNat:Int)=114)=False:=(hI 114 114 rfl).trans (by simp[hc]);have f3:((x.toNat:Int)=102)=False:=(hI 102 102 rfl).trans (by simp[hc]);have f4:((x.toNat:Int)=110)=False:=(hI 110 110 rfl).trans (by simp[hc]);by_cases h4:4<=k
    all_goals
     push_cast [f1,f2,f3,f4,h4]
     repeat (refine And.intro (by omega) ?_)
     refine ⟨j+1,by omega,by omega,wk (by push_cast [ze,zd,CLe,zg,e,hx1])⟩
   ·have f0:isO k s x=decide (114∈s∨82∈s):=by simp[isO,hc]
    have f1:((x.toNat:Int)=82)=False:=(hI 82 82 rfl).trans (by simp[hc]);have f2:((x.toNat:Int)=114)=True:=(hI 114 114 rfl).trans (by simp[hc]);have f3:((x.toNat:Int)=102)=False:=(hI 102 102 rfl).trans (by simp[hc]);have f4:((x.toNat:Int)=110)=False:=(hI 110 110 rfl).trans (by simp[hc]);push_cast [f1,f2,f3,f4];refine cl (Za s 114 hs) ?_;push_cast;by_cases h6:114∈s
    ·push_cast [h6];have e:YF k s (j+1)=YF k s j++[x]:=by rw[hstep,f0];simp[h6]
     by_cases h4:4<=k
     all_goals
      push_cast [f1,f2,f3,f4,h4];refine ⟨[x],rfl,?_⟩;push_cast
      repeat (refine And.intro (by omega) ?_)
      refine ⟨j+1,by omega,by omega,wk (by push_cast [ze,zd,CLe,zg,e,hx1])⟩
    ·push_cast [h6];refine cl (Za s 82 hs) ?_;push_cast;by_cases h7:82∈s
     ·have e:YF k s (j+1)=YF k s j++[x]:=by rw[hstep,f0];simp[h7]
      by_cases h4:4<=k
      all_goals
       push_cast [f1,f2,f3,f4,h4,h7];refine ⟨[x],rfl,?_⟩;push_cast
       repeat (refine And.intro (by omega) ?_)
       refine ⟨j+1,by omega,by omega,wk (by push_cast [ze,zd,CLe,zg,e,hx1])⟩
     ·have e:YF k s (j+1)=YF k s j:=by rw[hstep,f0];simp[h6,h7]
      by_cases h4:4<=k
      all_goals
       push_cast [f1,f2,f3,f4,h4,h7]
       repeat (refine And.intro (by omega) ?_)
       refine ⟨j+1,by omega,by omega,wk (by push_cast [ze,zd,CLe,zg,e,hx1])⟩
   ·have f0:isO k s x=decide (x∈s):=by simp[isO,hc]
    have h4:¬4<=k:=hc.2.2;have f1:((x.toNat:Int)=82)=False:=(hI 82 82 rfl).trans (by simp[hc]);have f2:((x.toNat:Int)=114)=False:=(hI 114 114 rfl).trans (by simp[hc]);by_cases h6:x∈s
    ·have e:YF k s (j+1)=YF k s j++[x]:=by rw[hstep,f0];simp[h6]
     push_cast [f1,f2,h4,h6];refine ⟨[x],rfl,?_⟩;push_cast
     repeat (refine And.intro (by omega) ?_)
     refine ⟨j+1,by omega,by omega,wk (by push_cast [ze,zd,CLe,zg,e,hx1])⟩
    ·have e:YF k s (j+1)=YF k s j:=by rw[hstep,f0];simp[h6]
     push_cast [f1,f2,h4,h6]
     repeat (refine And.intro (by omega) ?_)
     refine ⟨j+1,by omega,by omega,wk (by push_cast [ze,zd,CLe,zg,e,hx1])⟩
   ·have f0:isO k s x=decide (Qr s [102,110]=x):=by simp[isO,hc]
    have h4:4<=k:=hc.2;have f1:((x.toNat:Int)=82)=False:=(hI 82 82 rfl).trans (by simp[hc]);have f2:((x.toNat:Int)=114)=False:=(hI 114 114 rfl).trans (by simp[hc]);have f3:((x.toNat:Int)=102)=True:=(hI 102 102 rfl).trans (by simp[hc]);have f4:((x.toNat:Int)=110)=False:=(hI 110 110 rfl).trans (by simp[hc]);push_cast [f1,f2,f3,f4,h4];refine cl (x6 s [102,110] hs (by simp)) ?_;push_cast;by_cases h6:Qr s [102,110]=x
    ·have g6:((Qr s [102,110]).toNat=x.toNat)=True:=by simp[h6]
     have e:YF k s (j+1)=YF k s j++[x]:=by rw[hstep,f0];simp[h6]
     push_cast [g6];refine ⟨[x],rfl,?_⟩;push_cast
     repeat (refine And.intro (by omega) ?_)
     refine ⟨j+1,by omega,by omega,wk (by push_cast [ze,zd,CLe,zg,e,hx1])⟩
    ·have g6:((Qr s [102,110]).toNat=x.toNat)=False:=by simp[Ao,h6]
     have e:YF k s (j+1)=YF k s j:=by rw[hstep,f0];simp[h6]
     push_cast [g6]
     repeat (refine And.intro (by omega) ?_)
     refine ⟨j+1,by omega,by omega,wk (by push_cast [ze,zd,CLe,zg,e,hx1])⟩
   ·have f0:isO k s x=decide (Qr s [102,110]=x):=by simp[isO,hc]
    have h4:4<=k:=hc.2;have f1:((x.toNat:Int)=82)=False:=(hI 82 82 rfl).trans (by simp[hc]);have f2:((x.toNat:Int)=114)=False:=(hI 114 114 rfl).trans (by simp[hc]);have f3:((x.toNat:Int)=102)=False:=(hI 102 102 rfl).trans (by simp[hc]);have f4:((x.toNat:Int)=110)=True:=(hI 110 110 rfl).trans (by simp[hc]);push_cast [f1,f2,f3,f4,h4];refine cl (x6 s [102,110] hs (by simp)) ?_;push_cast;by_cases h6:Qr s [102,110]=x
    ·have g6:((Qr s [102,110]).toNat=x.toNat)=True:=by simp[h6]
     have e:YF k s (j+1)=YF k s j++[x]:=by rw[hstep,f0];simp[h6]
     push_cast [g6];refine ⟨[x],rfl,?_⟩;push_cast
     repeat (refine And.intro (by omega) ?_)
     refine ⟨j+1,by omega,by omega,wk (by push_cast [ze,zd,CLe,zg,e,hx1])⟩
    ·have g6:((Qr s [102,110]).toNat=x.toNat)=False:=by simp[Ao,h6]
     have e:YF k s (j+1)=YF k s j:=by rw[hstep,f0];simp[h6]
     push_cast [g6]
     repeat (refine And.intro (by omega) ?_)
     refine ⟨j+1,by omega,by omega,wk (by push_cast [ze,zd,CLe,zg,e,hx1])⟩
   ·have f0:isO k s x=decide (x∈s):=by simp[isO,hc]
    have h4:4<=k:=hc.2.2.1;have f1:((x.toNat:Int)=82)=False:=(hI 82 82 rfl).trans (by simp[hc]);have f2:((x.toNat:Int)=114)=False:=(hI 114 114 rfl).trans (by simp[hc]);have f3:((x.toNat:Int)=102)=False:=(hI 102 102 rfl).trans (by simp[hc]);have f4:((x.toNat:Int)=110)=False:=(hI 110 110 rfl).trans (by simp[hc]);by_cases h6:x∈s
    ·have e:YF k s (j+1)=YF k s j++[x]:=by rw[hstep,f0];simp[h6]
     push_cast [f1,f2,f3,f4,h4,h6];refine ⟨[x],rfl,?_⟩;push_cast
     repeat (refine And.intro (by omega) ?_)
     refine ⟨j+1,by omega,by omega,wk (by push_cast [ze,zd,CLe,zg,e,hx1])⟩
    ·have e:YF k s (j+1)=YF k s j:=by rw[hstep,f0];simp[h6]
     push_cast [f1,f2,f3,f4,h4,h6]
     repeat (refine And.intro (by omega) ?_)
     refine ⟨j+1,by omega,by omega,wk (by push_cast [ze,zd,CLe,zg,e,hx1])⟩
  ·have hj2:j=58:=by simp at h;omega
   subst hj2;push_cast;exact dn
abbrev Acc:=Lz->UInt8->Lz
def Y7 (all:Lz) (f:Acc):Lz->Lz->Lz×Lz
 | a,[]=>(a,[])
 | a,c :: r=>if c∈all then Y7 all f (f a c) r else (a,[c])
def qA (all:Lz) (f:Acc):Lz->Nat->List Lz->Lz×Nat×Lz
 | a,n,[]=>(a,n,[])
 | a,n,w :: r=>if w = [45,45] then (a,n+1,[]) else if w.length<2∨w[0]?≠some 45 then (a,n,[]) else
   if (Y7 all f a w.tail).2 = [] then qA all f (Y7 all f a w.tail).1 (n+1) r else ((Y7 all f a w.tail).1,n,(Y7 all f a w.tail).2)
def X0 (k:Int):Lz:=if k=1 then [112] else if k=2 then [100,102,114,82] else if k=3 then [102,110,115,84] else if k=4 then [102,110,84] else if k=5 then [102,110,114,82,80,84] else []
abbrev Yn:Acc:=fun s c=>s++[c]
theorem zcN {all:Lz} {f:Acc} {a w:Lz} {i:Nat} (hi:i<w.length):Y7 all f a (w.drop i)=if w[i]∈all then Y7 all f (f a w[i]) (w.drop (i+1)) else (a,[w[i]]):=by
 rw[Oc hi,Y7]
theorem G3 {all:Lz} {f:Acc} {a:Lz} (hn:n<l.length):qA all f a n (l.drop n)=if l[n] = [45,45] then (a,n+1,[]) else if l[n].length<2∨l[n][0]?≠some 45 then (a,n,[]) else
   if (Y7 all f a l[n].tail).2 = [] then qA all f (Y7 all f a l[n].tail).1 (n+1) (l.drop (n+1)) else ((Y7 all f a l[n].tail).1,n,(Y7 all f a l[n].tail).2):=by
 rw[Oc hn,qA]
theorem zlP {w:Lz} {i:Nat} (hi:i<w.length):(w.take (i+1)).drop i = [w[i]]:=by
 rw[WX,Wa hi];exact List.drop_left' (by rw[Ob];omega)
theorem vZ (k:Int) (l:List Lz) (hk:k=1∨k=2∨k=3∨k=4∨k=5) (hl:l.length<=100) (hs:∀ x∈l,x.length<=1000) :
  Fun Tryz.prog G0 64 [.sc (.int .i64 k),.sl 1 (zE l)] (.tup [.str (qA (X0 k) Yn [] 0 l).1,.sc (.int .i64 (qA (X0 k) Yn [] 0 l).2.1),.str (qA (X0 k) Yn [] 0 l).2.2]) 0:=by
 obtain ⟨A,hA⟩:∃ A,X0 k=A:=⟨_,rfl⟩;have hall:A.length<=1000000:=by
  subst hA;rcases hk with rfl | rfl | rfl | rfl | rfl<;>decide
 rw[hA];refine fon Tryz.func64 ?_;dsimp only[Tryz.f64];rcases hk with rfl | rfl | rfl | rfl | rfl
 case' inl=>have e:A = [112]:=hA.symm.trans rfl
 case' inr.inl=>have e:A = [100,102,114,82]:=hA.symm.trans rfl
 case' inr.inr.inl=>have e:A = [102,110,115,84]:=hA.symm.trans rfl
 case' inr.inr.inr.inl=>have e:A = [102,110,84]:=hA.symm.trans rfl
 case' inr.inr.inr.inr=>have e:A = [102,110,114,82,80,84]:=hA.symm.trans rfl
 all_goals
  push_cast;refine loop (fun p:Nat×Lz=>⟨[(1,.sl 1 (zE l)),(7,.str A),(8,.str p.2),(9,.sc (.int .i64 p.1))],[],0,0⟩) (fun p=>p.1<=l.length/\qA A Yn [] 0 l=qA A Yn p.2 p.1 (l.drop p.1)/\p.2.length<=1000*p.1) (fun p=>l.length-p.1) (0,[]) ⟨Wc _,rfl,Wc _⟩ ?_ ?_
  ·exact wk (by push_cast [ze,zd,CLe,zg,e])
  ·clear e hA;rintro ⟨n,s⟩ ⟨hn,hq,hsl⟩;dsimp only at hn hq hsl ⊢;by_cases h:n<l.length
   ·have hg:=Zz l n h;have hlw:=hs l[n] (Wx h);have hstep:=G3 (all:=A) (f:=Yn) (a:=s) h;generalize hw:l[n]=w at hg hlw hstep;by_cases h45:w = [45,45]
    ·rw[if_pos h45]at hstep;have hr:=hq.trans hstep;push_cast [h,hg,h45]
     repeat refine an ?_
     exact dn (by push_cast [ze,zd,CLe,zg,hr])
    ·rw[if_neg h45]at hstep;by_cases h2:w.length<2
     ·rw[if_pos (.inl h2)]at hstep;have hr:=hq.trans hstep;have h2':((w.length:Int)<2)=True:=eq_true (by omega);push_cast [h,hg,h45,h2']
      repeat refine an ?_
      exact dn (by push_cast [ze,zd,CLe,zg,hr])
     ·have h2':((w.length:Int)<2)=False:=Wu (by omega);have h0:w[0]?=some w[0]:=Wa (by omega);by_cases h3:w[0]=45
      ·have h3':((w[0].toNat:Int)=45)=True:=eq_true (by rw[h3];rfl);rw[if_neg (by rw[h0,h3];simp;omega)]at hstep;push_cast [h,hg,h45,h2',h0,h3']
       repeat refine an ?_
       refine loop (fun q:Nat×Lz=>⟨[(1,.sl 1 (zE l)),(7,.str A),(8,.str q.2),(9,.sc (.int .i64 n)),(10,.sc (.int .i64 q.1))],[],0,0⟩) (fun q=>1<=q.1/\q.1<=w.length/\Y7 A Yn s w.tail=Y7 A Yn q.2 (w.drop q.1)/\q.2.length+1<=1000*n+q.1) (fun q=>w.length-q.1) (1,s) ⟨Wb _,by dsimp only;omega,by simp,by dsimp only;omega⟩ ?_ ?_
       ·exact wk
       ·rintro ⟨i,t⟩ ⟨hi1,hi2,hi3,hi4⟩;dsimp only at hi1 hi2 hi3 hi4 ⊢;by_cases hi:i<w.length
        ·have hgi:w[i]?=some w[i]:=Wa hi;have hws:=zcN (all:=A) (f:=Yn) (a:=t) hi;push_cast [h,hg,hi,hgi]
         repeat refine an ?_
         refine cl (Za A w[i] hall) ?_;push_cast;by_cases hm:w[i]∈A
         ·rw[if_pos hm]at hws;push_cast [hm,hg,hgi]
          repeat refine an ?_
          refine ⟨(i+1,t++[w[i]]),⟨by omega,by dsimp only;omega,hi3.trans hws,by simp;omega⟩,by dsimp only;omega,wk (by push_cast [ze,zd,CLe,zg,zlP hi])⟩
         ·rw[if_neg hm]at hws;rw[if_neg (by rw[hi3,hws];simp),hi3,hws]at hstep;have hr:=hq.trans hstep;push_cast [hm,hg,hgi]
          repeat refine an ?_
          exact dn (by push_cast [ze,zd,CLe,zg,hr,zlP hi])
        ·have hil:i=w.length:=by omega
         rw[hil,AO,Y7]at hi3;rw[if_pos (by rw[hi3]),hi3]at hstep;push_cast [h,hg,hi]
         repeat refine an ?_
         exact ⟨(n+1,t),⟨by dsimp only;omega,hq.trans hstep,by dsimp only;omega⟩,by dsimp only;omega,wk⟩
      ·have h3':((w[0].toNat:Int)=45)=False:=Wu (fun hh=>h3 (Ao.1 (by show _=45;omega)));rw[if_pos (.inr (by rw[h0];simpa using h3))]at hstep;have hr:=hq.trans hstep;push_cast [h,hg,h45,h2',h0,h3']
       repeat refine an ?_
       exact dn (by push_cast [ze,zd,CLe,zg,hr])
   ·have hkl:n=l.length:=by omega
    subst hkl;have hr:=hq;rw[AO,qA]at hr;push_cast [h];exact dn (by push_cast [ze,zd,CLe,zg,hr])
def zgt (k:Int):Nat:=if k=4∨k=5 then 2 else 1
def jU (k:Int) (o:Lz) (ops:List Lz):Lz:=
 if ops.length=0 then (if k=2/\102∈o then [] else [109,105,115,115,105,110,103,32,111,112,101,114,97,110,100])
 else if ops.length<(if 84∈o then 2 else zgt k) then [109,105,115,115,105,110,103,32,100,101,115,116,105,110,97,116,105,111,110,32,111,112,101,114,97,110,100,32,97,102,116,101,114,32]++quoteL (ops.getD (ops.length-1) [])
 else if 84∈o/\2<ops.length then [101,120,116,114,97,32,111,112,101,114,97,110,100,32]++quoteL (ops.getD 2 []) else []
theorem Vh (l:Lz):(quoteL l).length<=4*l.length+2:=by
 have:=QuoteWalk.mid_len l;simp only[quoteL,Wh,Wi,Wz];omega
structure zpG where
 kind:Int
 opts:Lz
 operands:List Lz
def Yf (w:Lz):Nat->Int
 | 0=>0
 | j+1=>if jn ((j+1:Nat):Int)=w then ((j+1:Nat):Int) else Yf w j
def X6:zpG:=⟨0,[],[]⟩
def jL (kind:Int) (w:Lz) (q:Lz×Nat×Lz) (r:List Lz):zpG×Lz:=
 if q.2.2≠[] then (X6,w++[58,32,105,110,118,97,108,105,100,32,111,112,116,105,111,110,32]++quoteL q.2.2)
 else if jU kind (YF kind q.1 58) (r.drop q.2.1)≠[] then (X6,w++[58,32]++jU kind (YF kind q.1 58) (r.drop q.2.1))
 else (⟨kind,YF kind q.1 58,r.drop q.2.1⟩,[])
def J6:List Lz->zpG×Lz
 | []=>(X6,[109,105,115,115,105,110,103,32,99,111,109,109,97,110,100])
 | w :: r=>if Yf w 5=0 then (X6,quoteL w++[58,32,117,110,107,110,111,119,110,32,99,111,109,109,97,110,100])
  else jL (Yf w 5) w (qA (X0 (Yf w 5)) Yn [] 0 r) r
theorem Mu (w:Lz):∀ j,0<=Yf w j/\Yf w j<=j
 | 0=>⟨Af _,Af _⟩
 | j+1=>by
  have:=Mu w j;unfold Yf;split<;>omega
theorem xz (A:Lz) (f:Acc):∀ (w s:Lz),(Y7 A f s w).2.length<=1
 | [],s=>Wc _
 | c :: w,s=>by
  rw[Y7];split
  ·exact xz A f w _
  ·exact Wb _
theorem xN (A:Lz):∀ (w s:Lz),(Y7 A Yn s w).1.length<=s.length+w.length
 | [],s=>by simp[Y7]
 | c :: w,s=>by
  rw[Y7];split
  ·have h0:(Yn s c).length=s.length+1:=by simp
   have:=xN A w (Yn s c);simp only[Wh];omega
  ·simp only[Wh];omega
theorem Up (A:Lz):∀ (l:List Lz) (s:Lz) (n:Nat),(∀ x∈l,x.length<=1000)->(qA A Yn s n l).1.length<=s.length+1000*l.length/\(qA A Yn s n l).2.1<=n+l.length/\(qA A Yn s n l).2.2.length<=1
 | [],s,n,_=>by simp[qA]
 | w :: l,s,n,h=>by
  have hw:=h w (Wl ..);have h1:=xz A Yn w.tail s;have h2:=xN A w.tail s;have h3:w.tail.length<=1000:=by rw[List.length_tail];omega
  have ih:=Up A l (Y7 A Yn s w.tail).1 (n+1) fun x hx=>h x (Wn _ hx);rw[qA];simp only[Wh];split
  ·simp only[Wz];omega
  ·split
   ·simp only[Wz];omega
   ·split
    ·omega
    ·dsimp only;omega
abbrev ztF (c:zpG):C:=.agg [.sc (.int .i64 c.kind),.str c.opts,.own 0 9 1 (zE c.operands)]
theorem zgM (l:List Lz) (hl:l.length<=100) (hs:∀ x∈l,x.length<=1000) :
  Fun Tryz.prog G0 37 [.sl 1 (zE l)] (.tup [ztF (J6 l).1,.str (J6 l).2]) 1:=by
 refine fof (fun i=>if i=15 then [false,false,false,false,false,false,true,false,true] else []) Tryz.func37 ?_;dsimp only[Tryz.f37];rcases l with _ | ⟨w,r⟩
 ·push_cast [zE,Wv,Wz];exact ⟨[.inr (9,1)],rfl,rfl,by push_cast [ze,zd,CLe,zg,J6,X6]<;>rfl⟩
 ·have hlr:r.length<=99:=by simp at hl;omega
  have hw:=hs w (Wl ..);have hsr:∀ x∈r,x.length<=1000:=fun x hx=>hs x (Wn _ hx);have hsC:zE (w :: r) = [.str w] :: zE r:=rfl;have hp0:((r.length:Int)+1=0)=False:=Wu (by omega);rw[hsC];push_cast [hp0];refine loop (fun j:Nat=>⟨[(0,.sl 1 ([.str w] :: zE r)),(2,.ptr 0 0),(4,.sc (.int .i64 (Yf w j))),(5,.sc (.int .i64 ((j:Int)+1)))],[[.sc (.int .i64 0),.str [],.sc (.slice none 0 0)]],0,0⟩) (fun j=>j<=5) (fun j=>5-j) 0 (Wc _) ?_ ?_
  ·exact wk (by push_cast [ze,zd,CLe,zg,Yf])
  ·rintro j hj;by_cases h:j<5
   ·have hp1:((j:Int)+1<=5)=True:=eq_true (by omega);push_cast [hp1];refine cl (Hg ((j:Int)+1)) ?_;push_cast;have hku:Yf w (j+1)=if jn ((j:Int)+1)=w then (j:Int)+1 else Yf w j:=by simp[Yf]
    by_cases hm:jn ((j:Int)+1)=w
    ·rw[if_pos hm]at hku;push_cast [hm]
     repeat refine an ?_
     exact ⟨j+1,by omega,by omega,wk (by push_cast [ze,zd,CLe,zg,hku])⟩
    ·rw[if_neg hm]at hku;push_cast [hm]
     repeat refine an ?_
     exact ⟨j+1,by omega,by omega,wk (by push_cast [ze,zd,CLe,zg,hku])⟩
   ·have hp1:((j:Int)+1<=5)=False:=Wu (by omega);have hj5:j=5:=by omega
    subst hj5;have hkle:=Mu w 5;have hrd:J6 (w :: r)=if Yf w 5=0 then (X6,quoteL w++[58,32,117,110,107,110,111,119,110,32,99,111,109,109,97,110,100]) else jL (Yf w 5) w (qA (X0 (Yf w 5)) Yn [] 0 r) r:=rfl;generalize Yf w 5=K at hkle hrd ⊢;by_cases hK0:K=0
    ·rw[if_pos hK0]at hrd;have hq:=Vh w;push_cast [hp1,hK0];refine cl (Yr w (by omega)) ?_;push_cast
     repeat refine an ?_
     exact ⟨[.inr (9,1)],rfl,rfl,by push_cast [ze,zd,CLe,zg,hrd,X6]<;>rfl⟩
    ·rw[if_neg hK0]at hrd;have hkk:K=1∨K=2∨K=3∨K=4∨K=5:=by omega
     have hlet:=vZ K r hkk (by omega) hsr;have hbnd:=Up (X0 K) r [] 0 hsr;generalize qA (X0 K) Yn [] 0 r=q at hlet hbnd hrd ⊢;obtain ⟨s,n,bad⟩:=q;dsimp only at hlet hbnd;push_cast [hp1,hK0]
     repeat refine an ?_
     refine cl hlet ?_;push_cast;by_cases hbad:bad = []
     ·have hdr:List.drop (1+(n:Int)).toNat ([C.str w] :: zE r)=zE (r.drop n):=by
       rw[show (1+(n:Int)).toNat=n+1 by omega,A9];simp[zE]
      have hop:(r.drop n).length<=99:=by rw[W1];omega
      have hso:∀ x∈r.drop n,x.length<=1000:=fun x hx=>hsr x (WU hx);have hrt:jL K w (s,n,bad) r=if jU K (YF K s 58) (r.drop n)≠[] then (X6,w++[58,32]++jU K (YF K s 58) (r.drop n)) else (⟨K,YF K s 58,r.drop n⟩,[]):=by
       unfold jL;rw[if_neg (by simpa using hbad)]
      rw[hrt]at hrd;have h84:=Za (YF K s 58) 84 (by have:=OG (isO K s) ((List.range' 65 58).map UInt8.ofNat);simp at this;unfold YF;omega);have h102:=Za (YF K s 58) 102 (by have:=OG (isO K s) ((List.range' 65 58).map UInt8.ofNat);simp at this;unfold YF;omega);generalize r.drop n=ops at hop hso hrd hdr;push_cast [hbad];refine cl (vX K s (by simp at hbnd;omega)) ?_;push_cast [hdr];generalize YF K s 58=O at h84 h102 hrd ⊢
      repeat refine an ?_
      have hleast:zgt K=if 4<=K then 2 else 1:=by
       unfold zgt;by_cases h4:4<=K
       ·rw[if_pos h4,if_pos (by omega)]
       ·rw[if_neg h4,if_neg (by omega)]
      rcases ops with _ | ⟨x,_ | ⟨y,_ | ⟨z,t⟩⟩⟩
      ·by_cases hK2:K=2/\102∈O
       ·have hwv:jU K O [] = []:=by simp[jU,hK2]
        have hr2:=hrd;rw[hwv,if_neg (by simp)]at hr2;have h4:¬4<=K:=by omega
        have hK2':=hK2.1;have m102:=hK2.2;by_cases m84:84∈O
        all_goals
         push_cast [h4,zE,Wv,Wo,Wz,Wh];refine cl h84 ?_;push_cast [m84,hK2',zE,Wv,Wo,Wz,Wh];refine cl h102 ?_;push_cast [m102,zE,Wv,Wo,Wz,Wh];exact ⟨[.inl 0],rfl,rfl,by push_cast [ze,zd,CLe,zg,hr2,hK2',zE,Wv,Wo,Wz,Wh]⟩
       ·have hwv:jU K O [] = [109,105,115,115,105,110,103,32,111,112,101,114,97,110,100]:=by simp[jU,hK2]
        have hr2:=hrd;rw[hwv,if_pos (by simp)]at hr2;by_cases hK2':K=2
        ·have m102:102∉O:=fun h=>hK2 ⟨hK2',h⟩;have h4:¬4<=K:=by omega
         by_cases m84:84∈O
         all_goals
          push_cast [h4,zE,Wv,Wo,Wz,Wh];refine cl h84 ?_;push_cast [m84,hK2',zE,Wv,Wo,Wz,Wh];refine cl h102 ?_;push_cast [m102,zE,Wv,Wo,Wz,Wh]
          repeat refine an ?_
          exact ⟨[.inr (9,1)],rfl,rfl,by push_cast [ze,zd,CLe,zg,hr2,X6,WI,Oh,Ox]<;>rfl⟩
        ·by_cases h4:4<=K<;>by_cases m84:84∈O
         all_goals
          push_cast [h4,hK2',zE,Wv,Wo,Wz,Wh]
          try refine cl h84 ?_;push_cast [m84,hK2',zE,Wv,Wo,Wz,Wh]
          repeat refine an ?_
          exact ⟨[.inr (9,1)],rfl,rfl,by push_cast [ze,zd,CLe,zg,hr2,X6,WI,Oh,Ox]<;>rfl⟩
      ·have hx:=hso x (by simp);have hqx:=Vh x;by_cases hl2:4<=K∨84∈O
       ·have hwv:jU K O [x] = [109,105,115,115,105,110,103,32,100,101,115,116,105,110,97,116,105,111,110,32,111,112,101,114,97,110,100,32,97,102,116,101,114,32]++quoteL x:=by
         unfold jU;rw[if_neg (by simp),if_pos (by rw[hleast];rcases hl2 with h | h<;>simp[h])];rfl
        have hr2:=hrd;rw[hwv,if_pos (by simp)]at hr2;have h3:(4<=K/\84∈O)∨(4<=K/\84∉O)∨(¬4<=K/\84∈O):=by
         by_cases a:4<=K<;>by_cases b:84∈O<;>simp[a,b]at hl2 ⊢
        rcases h3 with ⟨h4,m84⟩ | ⟨h4,m84⟩ | ⟨h4,m84⟩
        all_goals
         push_cast [h4,zE,Wv,Wo,Wz,Wh]
         try refine cl h84 ?_;push_cast [m84,zE,Wv,Wo,Wz,Wh]
         repeat refine an ?_
         refine cl (Yr x (by omega)) ?_;push_cast
         repeat refine an ?_
         exact ⟨[.inr (9,1)],rfl,rfl,by push_cast [ze,zd,CLe,zg,hr2,X6,WI,Oh,Ox]<;>rfl⟩
       ·have h4:¬4<=K:=fun h=>hl2 (.inl h);have m84:84∉O:=fun h=>hl2 (.inr h);have hwv:jU K O [x] = []:=by
         unfold jU;rw[if_neg (by simp),hleast];simp[h4,m84]
        have hr2:=hrd;rw[hwv,if_neg (by simp)]at hr2;push_cast [h4,zE,Wv,Wo,Wz,Wh];refine cl h84 ?_;push_cast [m84,zE,Wv,Wo,Wz,Wh];exact ⟨[.inl 0],rfl,rfl,by push_cast [ze,zd,CLe,zg,hr2,zE,Wv,Wo,Wz,Wh]⟩
      ·have hwv:jU K O [x,y] = []:=by
        unfold jU;rw[if_neg (by simp),hleast];by_cases h4:4<=K<;>by_cases m84:84∈O<;>simp[h4,m84]
       have hr2:=hrd;rw[hwv,if_neg (by simp)]at hr2;by_cases h4:4<=K<;>by_cases m84:84∈O
       all_goals
        push_cast [h4,zE,Wv,Wo,Wz,Wh]
        try refine cl h84 ?_;push_cast [m84,zE,Wv,Wo,Wz,Wh]
        exact ⟨[.inl 0],rfl,rfl,by push_cast [ze,zd,CLe,zg,hr2,zE,Wv,Wo,Wz,Wh]⟩
      ·have hz:=hso z (by simp);have hqz:=Vh z;have hp0:((t.length:Int)+1+1+1=0)=False:=Wu (by omega);have hp2:((t.length:Int)+1+1+1<2)=False:=Wu (by omega);have hp3:((t.length:Int)+1+1+1<1)=False:=Wu (by omega);have hp4:(2<(t.length:Int)+1+1+1)=True:=eq_true (by omega);have hp5:(0<(t.length:Int)+1+1+1)=True:=eq_true (by omega);by_cases m84:84∈O
       ·have hwv:jU K O (x :: y :: z :: t) = [101,120,116,114,97,32,111,112,101,114,97,110,100,32]++quoteL z:=by
         unfold jU;rw[if_neg (by simp),hleast,if_neg (by simp[m84]),if_pos (by simp[m84])];rfl
        have hr2:=hrd;rw[hwv,if_pos (by simp)]at hr2;by_cases h4:4<=K
        all_goals
         push_cast [h4,hp0,hp2,hp3,hp4,hp5,zE,Wv,Wo,Wz,Wh]
         try refine cl h84 ?_;push_cast [m84,hp0,hp2,hp3,hp4,hp5,zE,Wv,Wo,Wz,Wh]
         try refine cl h84 ?_;push_cast [m84,hp0,hp2,hp3,hp4,hp5,zE,Wv,Wo,Wz,Wh]
         repeat refine an ?_
         refine cl (Yr z (by omega)) ?_;push_cast
         repeat refine an ?_
         exact ⟨[.inr (9,1)],rfl,rfl,by push_cast [ze,zd,CLe,zg,hr2,X6,WI,Oh,Ox]<;>rfl⟩
       ·have hwv:jU K O (x :: y :: z :: t) = []:=by
         unfold jU;rw[if_neg (by simp),hleast];by_cases h4:4<=K<;>simp[h4,m84]
        have hr2:=hrd;rw[hwv,if_neg (by simp)]at hr2;by_cases h4:4<=K
        all_goals
         push_cast [h4,hp0,hp2,hp3,hp4,hp5,zE,Wv,Wo,Wz,Wh]
         try refine cl h84 ?_;push_cast [m84,hp0,hp2,hp3,hp4,hp5,zE,Wv,Wo,Wz,Wh]
         try refine cl h84 ?_;push_cast [m84,hp0,hp2,hp3,hp4,hp5,zE,Wv,Wo,Wz,Wh]
         exact ⟨[.inl 0],rfl,rfl,by push_cast [ze,zd,CLe,zg,hr2,zE,Wv,Wo,Wz,Wh]⟩
     ·have hqb:=Vh bad;have hrt:jL K w (s,n,bad) r=(X6,w++[58,32,105,110,118,97,108,105,100,32,111,112,116,105,111,110,32]++quoteL bad):=by
       unfold jL;rw[if_pos (by simpa using hbad)]
      rw[hrt]at hrd;push_cast [hbad]
      repeat refine an ?_
      refine cl (Yr bad (by omega)) ?_;push_cast
      repeat refine an ?_
      exact ⟨[.inr (9,1)],rfl,rfl,by push_cast [ze,zd,CLe,zg,hrd,X6]<;>rfl⟩
theorem zg9 (l:List Lz):(J6 l).1.operands.length<=l.length:=by
 cases l with
 | nil=>simp[J6,X6]
 | cons w r =>
  rw[J6];split
  ·simp[X6]
  ·unfold jL;split
   ·simp[X6]
   ·split
    ·simp[X6]
    ·simp only[W1,Wh];omega
end
section
open CA CB
open Go.RowKit
abbrev zh6 (k:Int) (o:Lz) (ops:List Lz):List C:=[.sc (.int .i64 k),.str o,.sl 1 (zE ops)]
abbrev zut (k:Int) (o:Lz) (ops:List Lz):C:=.agg [.sc (.int .i64 k),.str o,.sl 1 (zE ops)]
theorem zeZ (d:zW) (hd:d.diags.length<=80000) (k w:Int) (a b:Lz) (e:Int) (ha:a.length<=3000) (hb:b.length<=3000):Fun Tryz.prog GD 40 [GQ d,.sc (.int .i64 k),.sc (.int .i64 w),.str a,.str b,.sc (.int .i64 e)] (GQ (Yj d (Jl k w a b e))) 0:=
 (zga d hd k w a b e ha hb).weak (by push_cast [ze,zd,CLe,zg,Yj])
abbrev zc5 (f:FsV) (dg:C):List C:=[.sc (.int .i64 f.maxI),.sc (.int .i64 f.maxB),.sc (.int .i64 f.next),.sl 6 (zu f.xs),dg]
theorem zk6 (f:FsV) (dg:List Lz) (hd:dg.length<=80000) (k w:Int) (a b:Lz) (e:Int) (ha:a.length<=3000) (hb:b.length<=3000) :
  YJ Tryz.prog G0 43 [.agg (zc5 f (.own 0 9 1 (zE dg))),.sc (.int .i64 k),.sc (.int .i64 w),.str a,.str b,.sc (.int .i64 e)] [] 1 (fun r bx n=>n=1/\r = .agg (zc5 f (.own 0 9 1 (zE (dg++[Jl k w a b e]))))/\bx = [Nn,Nn]):=by
 have ht:=xS k w a b e ha hb;generalize Jl k w a b e=x at ht ⊢;have hsl:(zE dg).length=dg.length:=We ..;refine foX (fun i=>if i=1 then [false,false,false,false,false,false,false,false,false,true,false,true] else []) Tryz.func43 ?_;dsimp only[Tryz.f43];push_cast
 repeat refine an ?_
 refine cl ht ?_;push_cast
 repeat refine an ?_
 exact ⟨_,[Nn,Nn],1,⟨⟨rfl,rfl,rfl⟩,Wc _⟩,[.inl 0],rfl,rfl,by push_cast [ze,zd,CLe,zg],by push_cast [ze,zd,CLe,zg]⟩
end
section
open CA CB
open Go.RowKit
theorem zbz {p:Lz} (h:zk (zq f b p true).1.ino f.xs=false):Q4 f b p=false:=by
 unfold Q4;rw[vn h,AK];exact .inr rfl
theorem zit (f:FsV) (hf:FsI f) (hr:FsR f) (hs:FsS f) (hd:HL f.xs) (b p:Lz) (hb:b.length<=100000) (hp:p.length<=3000):Fun Tryz.prog G0 114 [.agg (fsC f),.str b,.str p] (.sc (.bool (Q4 f b p))) 0:=by
 have hsk:=ZM f hf hr hs hd b p true hb hp;have hg:=jm (G:=G0) f (zq f b p true).1.ino (by have:=hs.len;omega) hf.rises;have e:Q4 f b p=(decide ((zq f b p true).2=0)&&decide ((zf (zq f b p true).1.ino f.xs).kind=2)):=rfl;have hno:=zbz (f:=f) (b:=b) (p:=p);by_cases h1:(zq f b p true).2=0
 ·have h1':=eq_true h1;rw[Wm h1,Ok]at e;cases hh:zk (zq f b p true).1.ino f.xs with
  | false =>
   rw[hh]at hg;rw[hno hh];refine fon Tryz.func114 ?_;dsimp only[Tryz.f114];push_cast;refine cl hsk ?_;push_cast [h1'];refine cl hg ?_;push_cast [h1'];exact dn
  | true =>
   rw[hh]at hg;rw[e];refine fon Tryz.func114 ?_;dsimp only[Tryz.f114];push_cast;refine cl hsk ?_;push_cast [h1'];refine cl hg ?_;push_cast [h1'];exact dn
 ·have h1':=Wu h1;rw[Wk h1,Od]at e;rw[e];refine fon Tryz.func114 ?_;dsimp only[Tryz.f114];push_cast;refine cl hsk ?_;push_cast [h1'];refine cl hg ?_;push_cast [h1'];exact dn
theorem JP {ops:List Lz} (h:0<ops.length):ops[ops.length-1]?=some (ops.getLastD []):=by
 rcases Ah ops with e | ⟨l,x,e⟩
 ·rw[e]at h;exact absurd h (Nat.lt_irrefl 0)
 ·rw[e,O0,List.getLastD_concat];simp
theorem zls (f:FsV) (hf:FsI f) (hr:FsR f) (hs:FsS f) (hd:HL f.xs) (b:Lz) (hb:b.length<=100000) (k:Int) (o:Lz) (ops:List Lz) (hn:ops.length<=1000) (hp:∀ x∈ops,x.length<=1000):Fun Tryz.prog G0 68 [.agg (fsC f),.str b,.agg (zh6 k o ops)] (.sc (.bool (HB f b k o ops))) 0:=by
 have hll:(zE ops).length=ops.length:=We ..;have e:HB f b k o ops=(!decide (ops.length<2)&&!decide ((84:UInt8)∈o)&&!Gv f b k o (ops.getLastD [])&&Q4 f b (ops.getLastD [])):=rfl;have h84:=zad k o (.sl 1 (zE ops)) 84 rfl;have h110:=zad k o (.sl 1 (zE ops)) 110 rfl;by_cases c1:ops.length<2
 ·have c1':=eq_true (show (ops.length:Int)<2 by omega);rw[Wm c1]at e;rw[e];refine fon Tryz.func68 ?_;dsimp only[Tryz.f68];push_cast [hll,c1'];exact dn (by push_cast [ze,zd,CLe,zg,AR,Od])
 have c1':=Wu (show ¬(ops.length:Int)<2 by omega);rw[Wk c1]at e;by_cases c2:(84:UInt8)∈o
 ·rw[Wm c2]at e h84;rw[e];refine fon Tryz.func68 ?_;dsimp only[Tryz.f68];push_cast [hll,c1'];refine cl h84 ?_;push_cast;exact dn (by push_cast [ze,zd,CLe,zg,AR,Od,Ad])
 rw[Wk c2]at e h84;have hlg:=JP (ops:=ops) (by omega);have hla:(zE ops)[ops.length-1]?=some [.str (ops.getLastD [])]:=by rw[Ws,hlg];rfl
 have hlx:((ops.length:Int)-1).toNat=ops.length-1:=by omega
 have hll2:(ops.getLastD []).length<=1000:=hp _ (Wg hlg);have hdi:=zit f hf hr hs hd b (ops.getLastD []) hb (by omega);have hsk:=ZM f hf hr hs hd b (ops.getLastD []) false hb (by omega);have hg:=jm (G:=G0) f (zq f b (ops.getLastD []) false).1.ino (by have:=hs.len;omega) hf.rises;have el:Gv f b k o (ops.getLastD [])=(decide (k=3)&&decide ((110:UInt8)∈o)&&decide ((zq f b (ops.getLastD []) false).2=0)&&decide ((zf (zq f b (ops.getLastD []) false).1.ino f.xs).kind=3)):=rfl;clear hlg;generalize ops.getLastD []=p at *;have hno:zk (zq f b p false).1.ino f.xs=false->(zf (zq f b p false).1.ino f.xs).kind≠3:=fun q=>by rw[vn q];exact show ¬(0:Int)=3 by decide
 generalize zq f b p false=T at *;by_cases c3:k=3
 ·have c3':=eq_true c3;by_cases c4:(110:UInt8)∈o
  ·rw[Wm c4]at h110 el;rw[Wm c3]at el;by_cases c5:T.2=0
   ·have c5':=eq_true c5;rw[Wm c5]at el;cases c6:zk T.1.ino f.xs with
    | false =>
     rw[c6]at hg;rw[Wk (hno c6)]at el;rw[el]at e;rw[e];refine fon Tryz.func68 ?_;dsimp only[Tryz.f68];push_cast [hll,c1'];refine cl h84 ?_;push_cast;push_cast [hll,hla,hlx,c3']
     repeat refine an ?_
     refine cl h110 ?_;push_cast;refine cl hsk ?_;push_cast [c5'];refine cl hg ?_;push_cast [c5'];refine cl hdi ?_;push_cast;exact dn (by push_cast [ze,zd,CLe,zg,Ad,Ac,Ok])
    | true =>
     rw[c6]at hg;by_cases c7:(zf T.1.ino f.xs).kind=3
     ·have c7':=eq_true c7;rw[Wm c7]at el;rw[el]at e;rw[e];refine fon Tryz.func68 ?_;dsimp only[Tryz.f68];push_cast [hll,c1'];refine cl h84 ?_;push_cast;push_cast [hll,hla,hlx,c3']
      repeat refine an ?_
      refine cl h110 ?_;push_cast;refine cl hsk ?_;push_cast [c5'];refine cl hg ?_;push_cast [c5',c7'];exact dn (by push_cast [ze,zd,CLe,zg,Bf,AR,Ad,Od])
     ·have c7':=Wu c7;rw[Wk c7]at el;rw[el]at e;rw[e];refine fon Tryz.func68 ?_;dsimp only[Tryz.f68];push_cast [hll,c1'];refine cl h84 ?_;push_cast;push_cast [hll,hla,hlx,c3']
      repeat refine an ?_
      refine cl h110 ?_;push_cast;refine cl hsk ?_;push_cast [c5'];refine cl hg ?_;push_cast [c5',c7'];refine cl hdi ?_;push_cast;exact dn (by push_cast [ze,zd,CLe,zg,Ad,Ac,Ok])
   ·have c5':=Wu c5;rw[Wk c5,Ad,Od]at el;rw[el]at e;rw[e];refine fon Tryz.func68 ?_;dsimp only[Tryz.f68];push_cast [hll,c1'];refine cl h84 ?_;push_cast;push_cast [hll,hla,hlx,c3']
    repeat refine an ?_
    refine cl h110 ?_;push_cast;refine cl hsk ?_;push_cast [c5'];refine cl hg ?_;push_cast [c5'];refine cl hdi ?_;push_cast;exact dn (by push_cast [ze,zd,CLe,zg,Ad,Ac,Ok])
  ·rw[Wk c4]at h110 el;rw[Ad,Od,Od]at el;rw[el]at e;rw[e];refine fon Tryz.func68 ?_;dsimp only[Tryz.f68];push_cast [hll,c1'];refine cl h84 ?_;push_cast;push_cast [hll,hla,hlx,c3']
   repeat refine an ?_
   refine cl h110 ?_;push_cast;refine cl hdi ?_;push_cast;exact dn (by push_cast [ze,zd,CLe,zg,Ad,Ac,Ok])
 ·have c3':=Wu c3;rw[Wk c3,Od,Od,Od]at el;rw[el]at e;rw[e];refine fon Tryz.func68 ?_;dsimp only[Tryz.f68];push_cast [hll,c1'];refine cl h84 ?_;push_cast;push_cast [hll,hla,hlx,c3']
  repeat refine an ?_
  refine cl hdi ?_;push_cast;exact dn (by push_cast [ze,zd,CLe,zg,Ad,Ac,Ok])
end
section
open CA CB
open Go.RowKit
theorem zbW {bx:List (List C)} {c:C} (h:c.stayB=true):Yk bx c c:=by
 cases c<;>simp[C.stayB]at h<;>(unfold Yk;simp[C.frz])
theorem jO {bx:List (List C)}:∀ {cs:List C},(cs.all C.stayB)=true->JA bx cs cs
 | [],_=>by unfold JA;rfl
 | c :: r,h=>by
  rw[A1,Wt]at h;unfold JA;exact ⟨_,_,rfl,zbW h.1,jO h.2⟩
theorem qe {bx:List (List C)} {c d:C} {r s:List C} (h:Yk bx c d) (h2:JA bx r s):JA bx (c :: r) (d :: s):=by unfold JA;exact ⟨_,_,rfl,h,h2⟩
theorem qX {bx:List (List C)} {cs:List C} (h:(cs.all C.stayB)=true):Yk bx (.agg cs) (.agg cs):=by unfold Yk;exact ⟨_,rfl,jO h⟩
theorem zbR (f:FsV) (hf:FsI f) (hs:FsS f) (p:Lz) (hp:p.length<=100000):Fun Tryz.prog G0 24 [.agg (fsC f),.str p] (.tup [.agg (J0 (qO f p).1),.sc (.int .i64 (qO f p).2)]) 0:=by
 have h1:=znp f hf hs p (by omega);have h2:=qt (G:=G0) f (atV f p).1.ino (by have:=hs.len;omega);by_cases c1:(atV f p).2=0
 ·by_cases c2:(atV f p).1.ino=0
  ·have e:qO f p=(Mn,1):=by unfold qO;rw[if_neg (fun h=>h c1),if_pos c2]
   rw[c1]at h1;refine fon Tryz.func24 ?_;dsimp only[Tryz.f24];push_cast;refine cl h1 ?_;push_cast [c2];exact dn (by push_cast [ze,zd,CLe,zg,e,Mn])
  ·have e:qO f p=(zf (atV f p).1.ino f.xs,0):=by unfold qO;rw[if_neg (fun h=>h c1),if_neg c2]
   rw[c1]at h1;refine fon Tryz.func24 ?_;dsimp only[Tryz.f24];push_cast;refine cl h1 ?_;push_cast [c2];refine cl h2 ?_;push_cast;exact dn (by push_cast [ze,zd,CLe,zg,e])
 ·have e:qO f p=(Mn,(atV f p).2):=by unfold qO;rw[if_pos c1]
  refine fon Tryz.func24 ?_;dsimp only[Tryz.f24];push_cast;refine cl h1 ?_;push_cast [c1];exact dn (by push_cast [ze,zd,CLe,zg,e,Mn])
theorem zjZ (f:FsV) (hf:FsI f) (hs:FsS f) (p:Lz) (hp:p.length<=100000):Fun Tryz.prog G0 132 [.agg (fsC f),.str p] (.tup [.sc (.int .i64 (Jz f p).1),.sc (.int .i64 (Jz f p).2)]) 0:=by
 have h1:=zbR f hf hs p hp;by_cases c1:(qO f p).2=0
 ·have d1:(atV f p).2=0/\(atV f p).1.ino≠0/\(qO f p).1=zf (atV f p).1.ino f.xs:=by
   unfold qO at c1 ⊢;split at c1
   ·rename_i h;exact absurd c1 h
   ·rename_i h;split at c1
    ·exact absurd c1 (show ¬(1:Int)=0 by decide)
    ·rename_i h';rw[if_neg h,if_neg h'];exact ⟨Wy.1 h,h',rfl⟩
  rw[c1]at h1;by_cases c2:(qO f p).1.kind=2
  ·have e:Jz f p=((qO f p).1.ino,0):=by unfold Jz;rw[if_neg (fun h=>h d1.1),if_neg d1.2.1,if_neg (by rw[←d1.2.2];exact fun h=>h c2),d1.2.2]
   refine fon Tryz.func132 ?_;dsimp only[Tryz.f132];push_cast;refine cl h1 ?_;push_cast [c2];exact dn (by push_cast [ze,zd,CLe,zg,e])
  ·have e:Jz f p=(0,3):=by unfold Jz;rw[if_neg (fun h=>h d1.1),if_neg d1.2.1,if_pos (by rw[←d1.2.2];exact c2)]
   refine fon Tryz.func132 ?_;dsimp only[Tryz.f132];push_cast;refine cl h1 ?_;push_cast [c2];exact dn (by push_cast [ze,zd,CLe,zg,e])
 ·have e:Jz f p=(0,(qO f p).2):=by
   unfold Jz qO;unfold qO at c1;split
   ·rfl
   ·rename_i h;rw[if_neg h]at c1;split
    ·rfl
    ·rename_i h';rw[if_neg h']at c1;exact absurd rfl c1
  refine fon Tryz.func132 ?_;dsimp only[Tryz.f132];push_cast;refine cl h1 ?_;push_cast [c1];exact dn (by push_cast [ze,zd,CLe,zg,e])
theorem QU {A Z:List C} (h:A.length=n):(A++Z).take n=A:=by rw[Ax,←h,Wf (Wb _)];simp
theorem zbv {A B Z:List C} {m:Nat} (ha:A.length=m) (hb:B.length=n):(spl (A++Z) m B).take ((m+n)*1)=A++B:=by
 unfold spl;rw[QU ha,QU (by rw[Wi,ha,hb,Nat.mul_one])]
theorem MW {A B Z Y:List C} {m:Nat} (ha:A.length=m) (hb:B.length=n):((A++Z).take m++B++Y).take ((m+n)*1)=A++B:=by
 rw[Nat.mul_one,QU ha,QU (by rw[Wi,ha,hb])]
theorem UU {a b:Xe}:(zE (a++b)).flatten=(zE a).flatten++(zE b).flatten:=by
 unfold zE;rw[WY,AX]
def ztO (f:FsV) (follow:Bool) (k:Nat):Prop:=k<=40->∀ (l:Xe) (s:zK) (dir:Bool) (q:Int),q=40-(k:Int)->l.length+k*20000<=1000000 ->
  Fun Tryz.prog G0 133 [.agg (fsC f),.agg (jt s),.sl 1 (zE l),.sc (.bool follow),.sc (.bool dir),.sc (.int .i64 q)] (.tup [.agg (jt (onN f follow k l s dir).1),.sc (.int .i64 (onN f follow k l s dir).2)]) 0
theorem zqq (hs:FsS f) (follow:Bool) (k:Nat) (s:zK) (dir:Bool) (q:Int) :
  Fun Tryz.prog G0 133 [.agg (fsC f),.agg (jt s),.sl 1 (zE []),.sc (.bool follow),.sc (.bool dir),.sc (.int .i64 q)] (.tup [.agg (jt (onN f follow k [] s dir).1),.sc (.int .i64 (onN f follow k [] s dir).2)]) 0:=by
 have hg:=qt (G:=G0) f s.ino (by have:=hs.len;omega);rw[kg];have e0:onL f follow (lkN f follow k) [] s dir=if zk s.ino f.xs=true/\dir=true/\(zf s.ino f.xs).kind≠2 then (qu,3) else (s,0):=rfl;cases hh:zk s.ino f.xs with
 | false =>
  rw[hh]at hg;have e:onL f follow (lkN f follow k) [] s dir=(s,0):=by rw[e0,hh];rfl
  refine fof (fun i=>if i=31 then Ys [(0,.pure),(1,.pure),(2,.pure),(3,.pure),(4,.pure),(5,.pure),(7,.pure),(9,.pure),(10,.pure),(11,.pure),(12,.pure),(6,.flt [0,1,2,6,7,8,9,10]),(8,.flt [0,1,2,7,8,9,10]),(13,.bar),(14,.pure),(15,.pure),(16,.bar),(17,.pure)] else []) Tryz.func133 ?_;dsimp only[Tryz.f133];push_cast;refine cl hg ?_;push_cast;exact dn (by push_cast [ze,zd,CLe,zg,e])
 | true =>
  rw[hh]at hg;cases dir with
  | false =>
   have e:onL f follow (lkN f follow k) [] s false=(s,0):=by rw[e0];simp
   refine fof (fun i=>if i=31 then Ys [(0,.pure),(1,.pure),(2,.pure),(3,.pure),(4,.pure),(5,.pure),(7,.pure),(9,.pure),(10,.pure),(11,.pure),(12,.pure),(6,.flt [0,1,2,6,7,8,9,10]),(8,.flt [0,1,2,7,8,9,10]),(13,.bar),(14,.pure),(15,.pure),(16,.bar),(17,.pure)] else []) Tryz.func133 ?_;dsimp only[Tryz.f133];push_cast;refine cl hg ?_;push_cast;exact dn (by push_cast [ze,zd,CLe,zg,e])
  | true =>
   by_cases hk:(zf s.ino f.xs).kind=2
   ·have e:onL f follow (lkN f follow k) [] s true=(s,0):=by rw[e0];simp[hk]
    refine fof (fun i=>if i=31 then Ys [(0,.pure),(1,.pure),(2,.pure),(3,.pure),(4,.pure),(5,.pure),(7,.pure),(9,.pure),(10,.pure),(11,.pure),(12,.pure),(6,.flt [0,1,2,6,7,8,9,10]),(8,.flt [0,1,2,7,8,9,10]),(13,.bar),(14,.pure),(15,.pure),(16,.bar),(17,.pure)] else []) Tryz.func133 ?_;dsimp only[Tryz.f133];push_cast;refine cl hg ?_;push_cast [hk];exact dn (by push_cast [ze,zd,CLe,zg,e])
   ·have e:onL f follow (lkN f follow k) [] s true=(qu,3):=by rw[e0,hh];simp[hk]
    refine fof (fun i=>if i=31 then Ys [(0,.pure),(1,.pure),(2,.pure),(3,.pure),(4,.pure),(5,.pure),(7,.pure),(9,.pure),(10,.pure),(11,.pure),(12,.pure),(6,.flt [0,1,2,6,7,8,9,10]),(8,.flt [0,1,2,7,8,9,10]),(13,.bar),(14,.pure),(15,.pure),(16,.bar),(17,.pure)] else []) Tryz.func133 ?_;dsimp only[Tryz.f133];push_cast;refine cl hg ?_;push_cast [hk];exact dn (by push_cast [ze,zd,CLe,zg,e,qu])
theorem zn8 (hs:FsS f) (follow:Bool) (k:Nat) (hk40:k<=40) (ihk:∀ j,j<k->ztO f follow j) (n:Lz) (r:Xe) (ih:∀ (s:zK) (dir:Bool) (q:Int),q=40-(k:Int)->r.length+k*20000<=1000000->Fun Tryz.prog G0 133 [.agg (fsC f),.agg (jt s),.sl 1 (zE r),.sc (.bool follow),.sc (.bool dir),.sc (.int .i64 q)] (.tup [.agg (jt (onN f follow k r s dir).1),.sc (.int .i64 (onN f follow k r s dir).2)]) 0)
    (s:zK) (dir:Bool) (q:Int) (hq:q=40-(k:Int)) (hl:(n :: r).length+k*20000<=1000000) :
    Fun Tryz.prog G0 133 [.agg (fsC f),.agg (jt s),.sl 1 ([.str n] :: zE r),.sc (.bool follow),.sc (.bool dir),.sc (.int .i64 q)] (.tup [.agg (jt (onN f follow k (n :: r) s dir).1),.sc (.int .i64 (onN f follow k (n :: r) s dir).2)]) 0:=by
  have hlen:=hs.len;have hsl:(zE r).length=r.length:=We ..;have hz:((r.length:Int)+1=0)=False:=Wu (by omega);have hrl:r.length+k*20000<=1000000:=by rw[Wh]at hl;omega
  rw[kg]at ih ⊢;have e0:onL f follow (lkN f follow k) (n :: r) s dir=if s.ino=0 then (qu,1)
    else if (zf s.ino f.xs).kind≠2 then (qu,3)
    else if n = [46] then onL f follow (lkN f follow k) r ⟨0,[],(zf s.ino f.xs).ino⟩ dir
    else if n = [46,46] then onL f follow (lkN f follow k) r ⟨0,[],(zf s.ino f.xs).parent⟩ dir
    else if Yo n (zf s.ino f.xs).es=false∨(zf (zL n (zf s.ino f.xs).es) f.xs).kind≠3∨(r = []/\follow=false/\dir=false) then
      onL f follow (lkN f follow k) r ⟨(zf s.ino f.xs).ino,n,zL n (zf s.ino f.xs).es⟩ dir
    else lkN f follow k (zf (zL n (zf s.ino f.xs).es) f.xs) (zf s.ino f.xs) r dir:=rfl
  by_cases h1:s.ino=0
  · rw[if_pos h1]at e0;refine fof (fun i=>if i=31 then Ys [(0,.pure),(1,.pure),(2,.pure),(3,.pure),(4,.pure),(5,.pure),(7,.pure),(9,.pure),(10,.pure),(11,.pure),(12,.pure),(6,.flt [0,1,2,6,7,8,9,10]),(8,.flt [0,1,2,7,8,9,10]),(13,.bar),(14,.pure),(15,.pure),(16,.bar),(17,.pure)] else []) Tryz.func133 ?_;dsimp only[Tryz.f133];push_cast [hz,h1];exact dn (by push_cast [ze,zd,CLe,zg,e0,qu])
  rw[if_neg h1]at e0;have hg:=qt (G:=G0) f s.ino (by omega);by_cases h2:(zf s.ino f.xs).kind=2
  case neg =>
    rw[if_pos h2]at e0;refine fof (fun i=>if i=31 then Ys [(0,.pure),(1,.pure),(2,.pure),(3,.pure),(4,.pure),(5,.pure),(7,.pure),(9,.pure),(10,.pure),(11,.pure),(12,.pure),(6,.flt [0,1,2,6,7,8,9,10]),(8,.flt [0,1,2,7,8,9,10]),(13,.bar),(14,.pure),(15,.pure),(16,.bar),(17,.pure)] else []) Tryz.func133 ?_;dsimp only[Tryz.f133];push_cast [hz,h1];refine cl hg ?_;push_cast [h2];exact dn (by push_cast [ze,zd,CLe,zg,e0,qu])
  rw[if_neg (fun h=>h h2)]at e0;have hh:=Ja h2;have hnod:=hs.node _ (zj hh).2.1;rw[hh]at hg;generalize zf s.ino f.xs=d at hg h2 e0 hnod;by_cases h3:n = [46]
  · rw[if_pos h3]at e0;have hi:=ih ⟨0,[],d.ino⟩ dir q hq hrl;refine fof (fun i=>if i=31 then Ys [(0,.pure),(1,.pure),(2,.pure),(3,.pure),(4,.pure),(5,.pure),(7,.pure),(9,.pure),(10,.pure),(11,.pure),(12,.pure),(6,.flt [0,1,2,6,7,8,9,10]),(8,.flt [0,1,2,7,8,9,10]),(13,.bar),(14,.pure),(15,.pure),(16,.bar),(17,.pure)] else []) Tryz.func133 ?_;dsimp only[Tryz.f133];push_cast [hz,h1];refine cl hg ?_;push_cast [h2,h3]
    repeat refine an ?_
    refine cl hi ?_;push_cast;exact dn (by push_cast [ze,zd,CLe,zg,e0])
  rw[if_neg h3]at e0;by_cases h4:n = [46,46]
  · rw[if_pos h4]at e0;have hi:=ih ⟨0,[],d.parent⟩ dir q hq hrl;have h3':([46,46]:Lz)≠[46]:=by decide
    refine fof (fun i=>if i=31 then Ys [(0,.pure),(1,.pure),(2,.pure),(3,.pure),(4,.pure),(5,.pure),(7,.pure),(9,.pure),(10,.pure),(11,.pure),(12,.pure),(6,.flt [0,1,2,6,7,8,9,10]),(8,.flt [0,1,2,7,8,9,10]),(13,.bar),(14,.pure),(15,.pure),(16,.bar),(17,.pure)] else []) Tryz.func133 ?_;dsimp only[Tryz.f133];push_cast [hz,h1];refine cl hg ?_;push_cast [h2,h4,h3']
    repeat refine an ?_
    refine cl hi ?_;push_cast;exact dn (by push_cast [ze,zd,CLe,zg,e0])
  rw[if_neg h4]at e0;have hfi:=xT (G:=G0) d.es n (by omega);have hx:=qt (G:=G0) f (zL n d.es) (by omega);have stop:(Yo n d.es=false∨(zf (zL n d.es) f.xs).kind≠3∨(r = []/\follow=false/\dir=false))->onL f follow (lkN f follow k) (n :: r) s dir=onL f follow (lkN f follow k) r ⟨d.ino,n,zL n d.es⟩ dir:=fun h=>by rw[e0,if_pos h]
  have hi:=ih ⟨d.ino,n,zL n d.es⟩ dir q hq hrl;cases hE:Yo n d.es with
  | false =>
    have e:=stop (.inl hE);rw[hE]at hfi;refine fof (fun i=>if i=31 then Ys [(0,.pure),(1,.pure),(2,.pure),(3,.pure),(4,.pure),(5,.pure),(7,.pure),(9,.pure),(10,.pure),(11,.pure),(12,.pure),(6,.flt [0,1,2,6,7,8,9,10]),(8,.flt [0,1,2,7,8,9,10]),(13,.bar),(14,.pure),(15,.pure),(16,.bar),(17,.pure)] else []) Tryz.func133 ?_;dsimp only[Tryz.f133];push_cast [hz,h1];refine cl hg ?_;push_cast [h2,h3,h4]
    repeat refine an ?_
    refine cl hfi ?_;push_cast [hE];refine cl hx ?_;push_cast [h2];refine cl hi ?_;push_cast;exact dn (by push_cast [ze,zd,CLe,zg,e])
  | true =>
  rw[hE]at hfi;by_cases hk3:(zf (zL n d.es) f.xs).kind=3
  case neg =>
    have e:=stop (.inr (.inl hk3));refine fof (fun i=>if i=31 then Ys [(0,.pure),(1,.pure),(2,.pure),(3,.pure),(4,.pure),(5,.pure),(7,.pure),(9,.pure),(10,.pure),(11,.pure),(12,.pure),(6,.flt [0,1,2,6,7,8,9,10]),(8,.flt [0,1,2,7,8,9,10]),(13,.bar),(14,.pure),(15,.pure),(16,.bar),(17,.pure)] else []) Tryz.func133 ?_;dsimp only[Tryz.f133];push_cast [hz,h1];refine cl hg ?_;push_cast [h2,h3,h4]
    repeat refine an ?_
    refine cl hfi ?_;push_cast [hE];refine cl hx ?_;push_cast [hk3];refine cl hi ?_;push_cast;exact dn (by push_cast [ze,zd,CLe,zg,e])
  by_cases hst:r = []/\follow=false/\dir=false
  · have e:=stop (.inr (.inr hst));obtain ⟨rfl,rfl,rfl⟩:=hst;refine fof (fun i=>if i=31 then Ys [(0,.pure),(1,.pure),(2,.pure),(3,.pure),(4,.pure),(5,.pure),(7,.pure),(9,.pure),(10,.pure),(11,.pure),(12,.pure),(6,.flt [0,1,2,6,7,8,9,10]),(8,.flt [0,1,2,7,8,9,10]),(13,.bar),(14,.pure),(15,.pure),(16,.bar),(17,.pure)] else []) Tryz.func133 ?_;dsimp only[Tryz.f133];push_cast [hz,h1];refine cl hg ?_;push_cast [h2,h3,h4]
    repeat refine an ?_
    refine cl hfi ?_;push_cast [hE];refine cl hx ?_;push_cast [hk3,Wv,Wz];refine cl hi ?_;push_cast;exact dn (by push_cast [ze,zd,CLe,zg,e])
  rw[if_neg (fun h=>by
    rcases h with h | h | h
    · rw[hE]at h;cases h
    · exact h hk3
    · exact hst h)]at e0
  clear stop hi ih;have hxn:(zf (zL n d.es) f.xs).data.length<=10000:=by
    have hhx:zk (zL n d.es) f.xs=true:=by
      cases hq2:zk (zL n d.es) f.xs with
      | true=>rfl
      | false=>rw[(Jn hq2).2]at hk3;exact absurd hk3 (by decide)
    exact (hs.node _ (zj hhx).2.1).2.1
  generalize zk (zL n d.es) f.xs=hb at hx;generalize zf (zL n d.es) f.xs=x at hx hk3 e0 hxn;have hgo:((r.length:Int)=0)=(r = []):=by
    rw[←Ak];exact propext ⟨fun h=>by omega,fun h=>by omega⟩
  cases k with
  | zero =>
    have hq40:q=40:=by omega
    have e:onL f follow (lkN f follow 0) (n :: r) s dir=(qu,6):=e0;by_cases hr:r = []
    · subst hr;cases follow<;>cases dir<;>first
        | exact absurd ⟨rfl,rfl,rfl⟩ hst
        | (subst hq40
           refine fof (fun i=>if i=31 then Ys [(0,.pure),(1,.pure),(2,.pure),(3,.pure),(4,.pure),(5,.pure),(7,.pure),(9,.pure),(10,.pure),(11,.pure),(12,.pure),(6,.flt [0,1,2,6,7,8,9,10]),(8,.flt [0,1,2,7,8,9,10]),(13,.bar),(14,.pure),(15,.pure),(16,.bar),(17,.pure)] else []) Tryz.func133 ?_;dsimp only[Tryz.f133];push_cast [hz,h1];refine cl hg ?_;push_cast [h2,h3,h4]
           repeat refine an ?_
           refine cl hfi ?_;push_cast [hE];refine cl hx ?_;push_cast [hk3,Wv,Wz];exact dn (by push_cast [ze,zd,CLe,zg,e,qu]))
    · have hr':=Wu hr;subst hq40;refine fof (fun i=>if i=31 then Ys [(0,.pure),(1,.pure),(2,.pure),(3,.pure),(4,.pure),(5,.pure),(7,.pure),(9,.pure),(10,.pure),(11,.pure),(12,.pure),(6,.flt [0,1,2,6,7,8,9,10]),(8,.flt [0,1,2,7,8,9,10]),(13,.bar),(14,.pure),(15,.pure),(16,.bar),(17,.pure)] else []) Tryz.func133 ?_;dsimp only[Tryz.f133];push_cast [hz,h1];refine cl hg ?_;push_cast [h2,h3,h4]
      repeat refine an ?_
      refine cl hfi ?_;push_cast [hE];refine cl hx ?_;push_cast [hk3,hgo,hr'];exact dn (by push_cast [ze,zd,CLe,zg,e,qu])
  | succ k =>
    have hq40:(q=40)=False:=Wu (by omega);have hlo:=Hh x.data (by omega);have hre:=Zr x.data (by omega);have hns:=qw x.data;have e1:onL f follow (lkN f follow (k+1)) (n :: r) s dir=if X7 x.data then (qu,7) else onN f follow k (zn x.data++r) ⟨0,[],if kI x.data then 1 else d.ino⟩ (dir||(qI x.data&&decide (r = []))):=e0;have hon:=fun dd=>ihk k (by omega) (by omega) (zn x.data++r) ⟨0,[],if kI x.data then 1 else d.ino⟩ dd (q+1) (by omega) (by simp;omega);unfold HQ at hre;change Fun _ _ _ _ (.agg [qQ (kI x.data),.own 0 9 1 (zE (zn x.data)),qQ (qI x.data)]) _ at hre;cases hlp:X7 x.data with
    | true =>
      rw[hlp,if_pos rfl]at e1;rw[hlp]at hlo;by_cases hr:r = []
      · subst hr;cases follow<;>cases dir<;>first
          | exact absurd ⟨rfl,rfl,rfl⟩ hst
          | (
             refine fof (fun i=>if i=31 then Ys [(0,.pure),(1,.pure),(2,.pure),(3,.pure),(4,.pure),(5,.pure),(7,.pure),(9,.pure),(10,.pure),(11,.pure),(12,.pure),(6,.flt [0,1,2,6,7,8,9,10]),(8,.flt [0,1,2,7,8,9,10]),(13,.bar),(14,.pure),(15,.pure),(16,.bar),(17,.pure)] else []) Tryz.func133 ?_;dsimp only[Tryz.f133];push_cast [hz,h1];refine cl hg ?_;push_cast [h2,h3,h4]
             repeat refine an ?_
             refine cl hfi ?_;push_cast [hE];refine cl hx ?_;push_cast [hk3,Wv,Wz,hq40];refine cl hlo ?_;push_cast;exact dn (by push_cast [ze,zd,CLe,zg,e1,qu]))
      · have hr':=Wu hr;refine fof (fun i=>if i=31 then Ys [(0,.pure),(1,.pure),(2,.pure),(3,.pure),(4,.pure),(5,.pure),(7,.pure),(9,.pure),(10,.pure),(11,.pure),(12,.pure),(6,.flt [0,1,2,6,7,8,9,10]),(8,.flt [0,1,2,7,8,9,10]),(13,.bar),(14,.pure),(15,.pure),(16,.bar),(17,.pure)] else []) Tryz.func133 ?_;dsimp only[Tryz.f133];push_cast [hz,h1];refine cl hg ?_;push_cast [h2,h3,h4]
        repeat refine an ?_
        refine cl hfi ?_;push_cast [hE];refine cl hx ?_;push_cast [hk3,hgo,hr',hq40];refine cl hlo ?_;push_cast;exact dn (by push_cast [ze,zd,CLe,zg,e1,qu])
    | false =>
      rw[hlp,if_neg (by decide)]at e1;rw[hlp]at hlo;have hkn:∀ z∈zE (zn x.data),z.length=1:=fun z hz=>by obtain ⟨y,_,rfl⟩:=WS.1 hz;rfl
      have hkr:∀ z∈zE r,z.length=1:=fun z hz=>by obtain ⟨y,_,rfl⟩:=WS.1 hz;rfl
      have hkb:∀ z∈zE (zn x.data++r),z.length=1:=fun z hz=>by obtain ⟨y,_,rfl⟩:=WS.1 hz;rfl
      have hsb:ji (zE (zn x.data++r)):=fun z hz=>by obtain ⟨y,_,rfl⟩:=WS.1 hz;rfl
      have hnl:(zE (zn x.data)).length=(zn x.data).length:=We ..;obtain ⟨fr,hfr⟩:∃ fr,(if kI x.data=true then 1 else d.ino)=fr:=⟨_,rfl⟩;obtain ⟨D,hD⟩:∃ D,(dir||(qI x.data&&decide (r = [])))=D:=⟨_,rfl⟩;have hon:=hon D;rw[hfr]at hon e1;rw[hD]at e1;by_cases hr:r = []
      · have hr':=eq_true hr;rw[Wm hr,Bf]at hD;cases hab:kI x.data<;>cases hsp:qI x.data <;>
        · rw[hab,hsp]at hre;rw[hab]at hfr;rw[hsp]at hD;simp only[if_true,Oi,W0]at hfr;subst hfr;cases follow<;>cases dir<;>first
            | exact absurd ⟨hr,rfl,rfl⟩ hst
            | (simp only[BD,AS]at hD
               subst hD;refine fof (fun i=>if i=31 then Ys [(0,.pure),(1,.pure),(2,.pure),(3,.pure),(4,.pure),(5,.pure),(7,.pure),(9,.pure),(10,.pure),(11,.pure),(12,.pure),(6,.flt [0,1,2,6,7,8,9,10]),(8,.flt [0,1,2,7,8,9,10]),(13,.bar),(14,.pure),(15,.pure),(16,.bar),(17,.pure)] else []) Tryz.func133 ?_;dsimp only[Tryz.f133];push_cast [hz,h1];refine cl hg ?_;push_cast [h2,h3,h4]
               repeat refine an ?_
               refine cl hfi ?_;push_cast [hE];refine cl hx ?_;push_cast [hk3,hgo,hr',hq40];refine cl hlo ?_;push_cast;refine cl hre ?_;push_cast [hgo,hr']
               repeat refine an ?_
               refine zat HY zh8 rfl rfl (by decide) rfl (zM hkn) (by omega) (by omega) (fun g0=>?_) (fun g0 cap c1 c2=>?_)
               · push_cast;refine ⟨by split<;>first | omega | trivial,?_⟩;refine zat HY zh8 rfl rfl (by decide) rfl (zM hkr) (by omega) (by omega) (fun g1=>?_) (fun g1 cap c1 c2=>?_)
                 · have hn0:zn x.data = []:=WP (by omega);have hr0:r = []:=WP (by omega);push_cast;refine ⟨by split<;>first | omega | trivial,?_⟩;push_cast;rw[show zn x.data++r = [] by rw[hn0,hr0];rfl]at hon e1;refine call (hon.less (by push_cast [ze,zd,CLe,zg])) ?_;push_cast;exact dn (by push_cast [ze,zd,CLe,zg,e1])
                 · have hn0:zn x.data = []:=WP (by omega);have hn1:(zn x.data).length=0:=by rw[hn0];rfl
                   push_cast;refine ⟨by split<;>first | omega | trivial,?_⟩;push_cast;refine M7 [.agg (fsC f),.agg (jt ⟨0,[],_⟩),.sl 1 (zE (zn x.data++r)),.sc (.bool _),.sc (.bool _),.sc (.int .i64 (q+1))] hon rfl ?_ ?_
                   · exact qe (qX rfl) (qe (qX rfl) (qe (QQ rfl (by rw[We,Wi];try omega) (by omega) c2 hkb hsb (by rw[hn0];exact QU ((zM hkr).trans (by rw[hsl])))) (jO rfl)))
                   · push_cast;exact dn (by push_cast [ze,zd,CLe,zg,e1])
               · push_cast;refine ⟨by split<;>first | omega | trivial,?_⟩;refine Q3 HY zh8 rfl rfl (by decide) rfl (zM hkr) rfl (by rw[Wi,zM hkn,Au];omega) (by omega) (by omega) (by omega) (fun g1=>?_) (fun g1 cap2 c3 c4=>?_)
                 · push_cast;refine ⟨by split<;>first | omega | trivial,?_⟩;push_cast;refine M7 [.agg (fsC f),.agg (jt ⟨0,[],_⟩),.sl 1 (zE (zn x.data++r)),.sc (.bool _),.sc (.bool _),.sc (.int .i64 (q+1))] hon rfl ?_ ?_
                   · exact qe (qX rfl) (qe (qX rfl) (qe (QQ rfl (by rw[We,Wi];try omega) (by omega) c2 hkb hsb (by exact (zbv ((zM hkn).trans (by omega)) ((zM hkr).trans (by omega))).trans UU.symm)) (jO rfl)))
                   · push_cast;exact dn (by push_cast [ze,zd,CLe,zg,e1])
                 · push_cast;refine ⟨by split<;>first | omega | trivial,?_⟩;push_cast;refine M7 [.agg (fsC f),.agg (jt ⟨0,[],_⟩),.sl 1 (zE (zn x.data++r)),.sc (.bool _),.sc (.bool _),.sc (.int .i64 (q+1))] hon rfl ?_ ?_
                   · exact qe (qX rfl) (qe (qX rfl) (qe (QQ rfl (by rw[We,Wi];try omega) (by omega) c4 hkb hsb (by exact (MW ((zM hkn).trans (by omega)) ((zM hkr).trans (by omega))).trans UU.symm)) (jO rfl)))
                   · push_cast;exact dn (by push_cast [ze,zd,CLe,zg,e1]))
      · have hr':=Wu hr;rw[Wk hr,Ad,AS]at hD;subst hD;cases hab:kI x.data<;>cases hsp:qI x.data <;>
        · rw[hab,hsp]at hre;rw[hab]at hfr;simp only[if_true,Oi,W0]at hfr;subst hfr;refine fof (fun i=>if i=31 then Ys [(0,.pure),(1,.pure),(2,.pure),(3,.pure),(4,.pure),(5,.pure),(7,.pure),(9,.pure),(10,.pure),(11,.pure),(12,.pure),(6,.flt [0,1,2,6,7,8,9,10]),(8,.flt [0,1,2,7,8,9,10]),(13,.bar),(14,.pure),(15,.pure),(16,.bar),(17,.pure)] else []) Tryz.func133 ?_;dsimp only[Tryz.f133];push_cast [hz,h1];refine cl hg ?_;push_cast [h2,h3,h4]
          repeat refine an ?_
          refine cl hfi ?_;push_cast [hE];refine cl hx ?_;push_cast [hk3,hgo,hr',hq40];refine cl hlo ?_;push_cast;refine cl hre ?_;push_cast [hgo,hr']
          repeat refine an ?_
          refine zat HY zh8 rfl rfl (by decide) rfl (zM hkn) (by omega) (by omega) (fun g0=>?_) (fun g0 cap c1 c2=>?_)
          · push_cast;refine ⟨by split<;>first | omega | trivial,?_⟩;refine zat HY zh8 rfl rfl (by decide) rfl (zM hkr) (by omega) (by omega) (fun g1=>?_) (fun g1 cap c1 c2=>?_)
            · exact absurd (WP (by omega)) hr
            · have hn0:zn x.data = []:=WP (by omega);have hn1:(zn x.data).length=0:=by rw[hn0];rfl
              push_cast;refine ⟨by split<;>first | omega | trivial,?_⟩;push_cast;refine M7 [.agg (fsC f),.agg (jt ⟨0,[],_⟩),.sl 1 (zE (zn x.data++r)),.sc (.bool _),.sc (.bool _),.sc (.int .i64 (q+1))] hon rfl ?_ ?_
              · exact qe (qX rfl) (qe (qX rfl) (qe (QQ rfl (by rw[We,Wi];try omega) (by omega) c2 hkb hsb (by rw[hn0];exact QU ((zM hkr).trans (by rw[hsl])))) (jO rfl)))
              · push_cast;exact dn (by push_cast [ze,zd,CLe,zg,e1])
          · push_cast;refine ⟨by split<;>first | omega | trivial,?_⟩;refine Q3 HY zh8 rfl rfl (by decide) rfl (zM hkr) rfl (by rw[Wi,zM hkn,Au];omega) (by omega) (by omega) (by omega) (fun g1=>?_) (fun g1 cap2 c3 c4=>?_)
            · push_cast;refine ⟨by split<;>first | omega | trivial,?_⟩;push_cast;refine M7 [.agg (fsC f),.agg (jt ⟨0,[],_⟩),.sl 1 (zE (zn x.data++r)),.sc (.bool _),.sc (.bool _),.sc (.int .i64 (q+1))] hon rfl ?_ ?_
              · exact qe (qX rfl) (qe (qX rfl) (qe (QQ rfl (by rw[We,Wi];try omega) (by omega) c2 hkb hsb (by exact (zbv ((zM hkn).trans (by omega)) ((zM hkr).trans (by omega))).trans UU.symm)) (jO rfl)))
              · push_cast;exact dn (by push_cast [ze,zd,CLe,zg,e1])
            · push_cast;refine ⟨by split<;>first | omega | trivial,?_⟩;push_cast;refine M7 [.agg (fsC f),.agg (jt ⟨0,[],_⟩),.sl 1 (zE (zn x.data++r)),.sc (.bool _),.sc (.bool _),.sc (.int .i64 (q+1))] hon rfl ?_ ?_
              · exact qe (qX rfl) (qe (qX rfl) (qe (QQ rfl (by rw[We,Wi];try omega) (by omega) c4 hkb hsb (by exact (MW ((zM hkn).trans (by omega)) ((zM hkr).trans (by omega))).trans UU.symm)) (jO rfl)))
              · push_cast;exact dn (by push_cast [ze,zd,CLe,zg,e1])
theorem zrx (hs:FsS f) (follow:Bool):∀ k,ztO f follow k:=by
 intro k
 induction k using Nat.strongRecOn with
 | ind k ihk =>
  intro hk l
  induction l with
  | nil=>intro s dir q hq hl;exact zqq hs follow k s dir q
  | cons n r ih=>intro s dir q hq hl;exact zn8 hs follow k hk ihk n r ih s dir q hq hl
end
section
open CA CB
open Go.RowKit
theorem ZU (f:FsV) (hf:FsI f) (hs:FsS f) (b p:Lz) (follow:Bool) (hb:b.length<=100000) (hp:p.length<=100000):Fun Tryz.prog G0 78 [.agg (fsC f),.str b,.str p,.sc (.bool follow)] (.tup [.agg (jt (zq f b p follow).1),.sc (.int .i64 (zq f b p follow).2)]) 0:=by
 have hns:=qw p;have hlo:=Hh p hp;have hre:=Zr p hp;have hon:=fun fr=>zrx hs follow 40 (Wb _) (zn p) ⟨0,[],fr⟩ (qI p) 0 rfl (by omega);unfold HQ at hre;change Fun _ _ _ _ (.agg [qQ (kI p),.own 0 9 1 (zE (zn p)),qQ (qI p)]) _ at hre;by_cases h1:p = []
 ·subst h1;have e:zq f b [] follow=(qu,1):=by unfold zq;rw[if_pos rfl]
  refine fon Tryz.func78 ?_;dsimp only[Tryz.f78];push_cast;exact dn (by push_cast [ze,zd,CLe,zg,e,qu])
 cases h2:X7 p with
 | true =>
  rw[h2]at hlo;have e:zq f b p follow=(qu,7):=by unfold zq;rw[if_neg h1,if_pos h2]
  refine fon Tryz.func78 ?_;dsimp only[Tryz.f78];push_cast [h1];refine cl hlo ?_;push_cast;exact dn (by push_cast [ze,zd,CLe,zg,e,qu])
 | false =>
 rw[h2]at hlo;cases h3:kI p with
 | true =>
  rw[h3]at hre;have e:zq f b p follow=onN f follow 40 (zn p) ⟨0,[],1⟩ (qI p):=by unfold zq;rw[if_neg h1,if_neg (by rw[h2];decide),if_pos h3]
  have hon:=hon 1;refine fon Tryz.func78 ?_;dsimp only[Tryz.f78];push_cast [h1];refine cl hlo ?_;push_cast;refine cl hre ?_;push_cast;refine cl hon ?_;push_cast;exact dn (by push_cast [ze,zd,CLe,zg,e])
 | false =>
  rw[h3]at hre;have hh:=zjZ f hf hs b hb;by_cases h4:(Jz f b).2=0
  ·have e:zq f b p follow=onN f follow 40 (zn p) ⟨0,[],(Jz f b).1⟩ (qI p):=by unfold zq;rw[if_neg h1,if_neg (by rw[h2];decide),if_neg (by rw[h3];decide),if_neg (fun q=>q h4)]
   have hon:=hon (Jz f b).1;rw[h4]at hh;refine fon Tryz.func78 ?_;dsimp only[Tryz.f78];push_cast [h1];refine cl hlo ?_;push_cast;refine cl hre ?_;push_cast;refine cl hh ?_;push_cast;refine cl hon ?_;push_cast;exact dn (by push_cast [ze,zd,CLe,zg,e])
  ·have e:zq f b p follow=(qu,(Jz f b).2):=by unfold zq;rw[if_neg h1,if_neg (by rw[h2];decide),if_neg (by rw[h3];decide),if_pos h4]
   refine fon Tryz.func78 ?_;dsimp only[Tryz.f78];push_cast [h1];refine cl hlo ?_;push_cast;refine cl hre ?_;push_cast;refine cl hh ?_;push_cast [h4];exact dn (by push_cast [ze,zd,CLe,zg,e,qu])
end
section
open CA CB
open Go.RowKit
theorem zj8 (f:FsV) (hf:FsI f) (hs:FsS f) (b p:Lz) (hb:b.length<=100000) (hp:p.length<=100000):Fun Tryz.prog G0 77 [.agg (fsC f),.str b,.str p] (.sc (.bool (Q4 f b p))) 0:=by
 have hsk:=ZU f hf hs b p true hb hp;have hg:=qt (G:=G0) f (zq f b p true).1.ino (by have:=hs.len;omega);have e:Q4 f b p=(decide ((zq f b p true).2=0)&&decide ((zf (zq f b p true).1.ino f.xs).kind=2)):=rfl;have hno:=zbz (f:=f) (b:=b) (p:=p);by_cases h1:(zq f b p true).2=0
 ·have h1':=eq_true h1;rw[Wm h1,Ok]at e;cases hh:zk (zq f b p true).1.ino f.xs with
  | false =>
   rw[hh]at hg;rw[hno hh];refine fon Tryz.func77 ?_;dsimp only[Tryz.f77];push_cast;refine cl hsk ?_;push_cast [h1'];refine cl hg ?_;push_cast [h1'];exact dn
  | true =>
   rw[hh]at hg;rw[e];refine fon Tryz.func77 ?_;dsimp only[Tryz.f77];push_cast;refine cl hsk ?_;push_cast [h1'];refine cl hg ?_;push_cast [h1'];exact dn
 ·have h1':=Wu h1;rw[Wk h1,Od]at e;rw[e];refine fon Tryz.func77 ?_;dsimp only[Tryz.f77];push_cast;refine cl hsk ?_;push_cast [h1'];refine cl hg ?_;push_cast [h1'];exact dn
theorem zao (p:Lz):zn p = []->Lib.hasPrefix p [47] = !decide (p = []):=zcp p
theorem va (f:FsV) (hf:FsI f) (hs:FsS f) (b:Lz) (hb:b.length<=100000) (k:Int) (o:Lz) (ho:o.length<=1000) (ops:List Lz) (hn:ops.length<=1000) (hp:∀ x∈ops,x.length<=1000):Fun Tryz.prog G0 42 [.agg (fsC f),.str b,.agg (zh6 k o ops)] (.tup [.sl 1 (zE ((qg f b k o ops).getD [])),.sc (.bool (qg f b k o ops).isSome)]) 0:=by
 have hll:(zE ops).length=ops.length:=We ..;by_cases c1:ops.length=1
 ·have c1':=eq_true (show (ops.length:Int)=1 by omega);obtain ⟨p,rfl⟩:=BF.1 c1;have e:qg f b k o [p]=some [J8 p]:=rfl;have hba:=k7 p (by have:=hp p Wl;omega) (zao p);rw[e];refine fof (fun i=>if i=7 then qS 12 13 else if i=16 then [false,false,false,false,false,false,false,false,false,false,false,false,false,false,false,true] else []) Tryz.func42 ?_;dsimp only[Tryz.f42];push_cast [zE,Wo,Wv,Wh,Wz]
  repeat refine an ?_
  refine cl hba ?_;push_cast;exact dn (by push_cast [ze,zd,CLe,zg,WO,OL,zE,Wo,Wv])
 have c1':=Wu (show ¬(ops.length:Int)=1 by omega);have h84:=Za o 84 (by omega);have h110:=Za o 110 (by omega);have e0:HB f b k o ops=(!decide (ops.length<2)&&!decide ((84:UInt8)∈o)&&!Gv f b k o (ops.getLastD [])&&Q4 f b (ops.getLastD [])):=rfl;by_cases c2:2<=ops.length
 case neg =>
  have c2':=Wu (show ¬(2:Int)<=ops.length by omega);rw[Wm (by omega)]at e0;have ei:HB f b k o ops=false:=by rw[e0];rfl
  by_cases c9:ops.length=2
  ·have c9':=eq_true (show (ops.length:Int)=2 by omega);have ep:qg f b k o ops=some [ops.getLastD []]:=by unfold qg;rw[if_neg c1,if_neg (by rw[ei];decide),if_pos c9]
   have hla1:(zE ops)[1]?=some [.str (ops.getLastD [])]:=by rw[Ws,show (1:Nat)=ops.length-1 by omega,JP (by omega)];rfl
   rw[ep];refine fof (fun i=>if i=7 then qS 12 13 else if i=16 then [false,false,false,false,false,false,false,false,false,false,false,false,false,false,false,true] else []) Tryz.func42 ?_;dsimp only[Tryz.f42];push_cast [hll,c1',c2'];push_cast [c9',hll,hla1]
   repeat refine an ?_
   exact dn (by push_cast [ze,zd,CLe,zg,WO,OL,zE,Wo,Wv])
  ·have c9':=Wu (show ¬(ops.length:Int)=2 by omega);have ep:qg f b k o ops=none:=by unfold qg;rw[if_neg c1,if_neg (by rw[ei];decide),if_neg c9]
   rw[ep];refine fof (fun i=>if i=7 then qS 12 13 else if i=16 then [false,false,false,false,false,false,false,false,false,false,false,false,false,false,false,true] else []) Tryz.func42 ?_;dsimp only[Tryz.f42];push_cast [hll,c1',c2'];push_cast [c9',hll];exact dn (by push_cast [ze,zd,CLe,zg,Oe,Am,zE,Wv])
 have c2':=eq_true (show (2:Int)<=ops.length by omega);rw[Wk (by omega),Ac,Ok]at e0;by_cases c8:(84:UInt8)∈o
 ·rw[Wm c8]at e0 h84;have ei:HB f b k o ops=false:=by rw[e0];rfl
  by_cases c9:ops.length=2
  ·have c9':=eq_true (show (ops.length:Int)=2 by omega);have ep:qg f b k o ops=some [ops.getLastD []]:=by unfold qg;rw[if_neg c1,if_neg (by rw[ei];decide),if_pos c9]
   have hla1:(zE ops)[1]?=some [.str (ops.getLastD [])]:=by rw[Ws,show (1:Nat)=ops.length-1 by omega,JP (by omega)];rfl
   rw[ep];refine fof (fun i=>if i=7 then qS 12 13 else if i=16 then [false,false,false,false,false,false,false,false,false,false,false,false,false,false,false,true] else []) Tryz.func42 ?_;dsimp only[Tryz.f42];push_cast [hll,c1',c2'];refine cl h84 ?_;push_cast [c2'];push_cast [c9',hll,hla1]
   repeat refine an ?_
   exact dn (by push_cast [ze,zd,CLe,zg,WO,OL,zE,Wo,Wv])
  ·have c9':=Wu (show ¬(ops.length:Int)=2 by omega);have ep:qg f b k o ops=none:=by unfold qg;rw[if_neg c1,if_neg (by rw[ei];decide),if_neg c9]
   rw[ep];refine fof (fun i=>if i=7 then qS 12 13 else if i=16 then [false,false,false,false,false,false,false,false,false,false,false,false,false,false,false,true] else []) Tryz.func42 ?_;dsimp only[Tryz.f42];push_cast [hll,c1',c2'];refine cl h84 ?_;push_cast [c2'];push_cast [c9',hll];exact dn (by push_cast [ze,zd,CLe,zg,Oe,Am,zE,Wv])
 rw[Wk c8]at e0 h84;rw[Ac,Ok]at e0;have hlg:=JP (ops:=ops) (by omega);have hla:(zE ops)[ops.length-1]?=some [.str (ops.getLastD [])]:=by rw[Ws,hlg];rfl
 have hlx:((ops.length:Int)-1).toNat=ops.length-1:=by omega
 have hl2:(ops.getLastD []).length<=1000:=hp _ (Wg hlg);have hdi:=zj8 f hf hs b (ops.getLastD []) hb (by omega);have hsk:=ZU f hf hs b (ops.getLastD []) false hb (by omega);have hg:=qt (G:=G0) f (zq f b (ops.getLastD []) false).1.ino (by have:=hs.len;omega);have el:Gv f b k o (ops.getLastD [])=(decide (k=3)&&decide ((110:UInt8)∈o)&&decide ((zq f b (ops.getLastD []) false).2=0)&&decide ((zf (zq f b (ops.getLastD []) false).1.ino f.xs).kind=3)):=rfl;clear hlg;generalize zq f b (ops.getLastD []) false=S at *;generalize zf S.1.ino f.xs=X at *;generalize Gv f b k o (ops.getLastD [])=lk at *;have hcase:(lk=false/\(k≠3∨(k=3/\(110:UInt8)∉o)∨(k=3/\(110:UInt8)∈o/\S.2≠0)∨(k=3/\(110:UInt8)∈o/\S.2=0/\X.kind≠3)))∨(lk=true/\k=3/\(110:UInt8)∈o/\S.2=0/\X.kind=3):=by
  rw[el];by_cases x1:k=3<;>by_cases x2:(110:UInt8)∈o<;>by_cases x3:S.2=0<;>by_cases x4:X.kind=3<;>simp[x1,x2,x3,x4]
 clear el;rcases hcase with ⟨hL,hc⟩ | ⟨hL,d1,d2,d3,d4⟩
 case inr =>
  rw[hL]at e0;have ei:HB f b k o ops=false:=by rw[e0];rfl
  have c3':=eq_true d1;have c5':=eq_true d3;have c7':=eq_true d4;rw[Wm d2]at h110;by_cases c9:ops.length=2
  ·have c9':=eq_true (show (ops.length:Int)=2 by omega);have ep:qg f b k o ops=some [ops.getLastD []]:=by unfold qg;rw[if_neg c1,if_neg (by rw[ei];decide),if_pos c9]
   have hla1:(zE ops)[1]?=some [.str (ops.getLastD [])]:=by rw[Ws,show (1:Nat)=ops.length-1 by omega,JP (by omega)];rfl
   rw[ep];refine fof (fun i=>if i=7 then qS 12 13 else if i=16 then [false,false,false,false,false,false,false,false,false,false,false,false,false,false,false,true] else []) Tryz.func42 ?_;dsimp only[Tryz.f42];push_cast [hll,c1',c2'];refine cl h84 ?_;push_cast [hll,hla,hlx,c2']
   repeat refine an ?_
   refine cl hdi ?_;push_cast [hll,hla,hlx]
   repeat refine an ?_
   refine cl hsk ?_;push_cast [c3',c5'];refine cl hg ?_;push_cast [c3',c5',c7']
   try (refine cl h110 ?_;push_cast [c3',c5',c7'])
   push_cast [c9',hll,hla1]
   repeat refine an ?_
   exact dn (by push_cast [ze,zd,CLe,zg,WO,OL,zE,Wo,Wv])
  ·have c9':=Wu (show ¬(ops.length:Int)=2 by omega);have ep:qg f b k o ops=none:=by unfold qg;rw[if_neg c1,if_neg (by rw[ei];decide),if_neg c9]
   rw[ep];refine fof (fun i=>if i=7 then qS 12 13 else if i=16 then [false,false,false,false,false,false,false,false,false,false,false,false,false,false,false,true] else []) Tryz.func42 ?_;dsimp only[Tryz.f42];push_cast [hll,c1',c2'];refine cl h84 ?_;push_cast [hll,hla,hlx,c2']
   repeat refine an ?_
   refine cl hdi ?_;push_cast [hll,hla,hlx]
   repeat refine an ?_
   refine cl hsk ?_;push_cast [c3',c5'];refine cl hg ?_;push_cast [c3',c5',c7']
   try (refine cl h110 ?_;push_cast [c3',c5',c7'])
   push_cast [c9',hll];exact dn (by push_cast [ze,zd,CLe,zg,Oe,Am,zE,Wv])
 rw[hL,Ac,Ok]at e0;cases hD:Q4 f b (ops.getLastD []) with
 | false =>
  rw[hD]at e0 hdi;have ei:HB f b k o ops=false:=e0;rcases hc with d1 | ⟨d1,d2⟩ | ⟨d1,d2,d3⟩ | ⟨d1,d2,d3,d4⟩
  all_goals
   have c3':(k=3)=(k=3):=rfl;have c5':(S.2=0)=(S.2=0):=rfl;have c7':(X.kind=3)=(X.kind=3):=rfl
   try (have c3':=eq_true d1)
   try (have c3':=Wu d1)
   try (rw[Wm d2]at h110)
   try (rw[Wk d2]at h110)
   try (have c5':=eq_true d3)
   try (have c5':=Wu d3)
   try (have c7':=Wu d4)
   by_cases c9:ops.length=2
   ·have c9':=eq_true (show (ops.length:Int)=2 by omega);have ep:qg f b k o ops=some [ops.getLastD []]:=by unfold qg;rw[if_neg c1,if_neg (by rw[ei];decide),if_pos c9]
    have hla1:(zE ops)[1]?=some [.str (ops.getLastD [])]:=by rw[Ws,show (1:Nat)=ops.length-1 by omega,JP (by omega)];rfl
    rw[ep];refine fof (fun i=>if i=7 then qS 12 13 else if i=16 then [false,false,false,false,false,false,false,false,false,false,false,false,false,false,false,true] else []) Tryz.func42 ?_;dsimp only[Tryz.f42];push_cast [hll,c1',c2'];refine cl h84 ?_;push_cast [hll,hla,hlx,c2']
    repeat refine an ?_
    refine cl hdi ?_;push_cast [hll,hla,hlx]
    repeat refine an ?_
    refine cl hsk ?_;push_cast [c3',c5'];refine cl hg ?_;push_cast [c3',c5',c7']
    try (refine cl h110 ?_;push_cast [c3',c5',c7'])
    push_cast [c9',hll,hla1]
    repeat refine an ?_
    exact dn (by push_cast [ze,zd,CLe,zg,WO,OL,zE,Wo,Wv])
   ·have c9':=Wu (show ¬(ops.length:Int)=2 by omega);have ep:qg f b k o ops=none:=by unfold qg;rw[if_neg c1,if_neg (by rw[ei];decide),if_neg c9]
    rw[ep];refine fof (fun i=>if i=7 then qS 12 13 else if i=16 then [false,false,false,false,false,false,false,false,false,false,false,false,false,false,false,true] else []) Tryz.func42 ?_;dsimp only[Tryz.f42];push_cast [hll,c1',c2'];refine cl h84 ?_;push_cast [hll,hla,hlx,c2']
    repeat refine an ?_
    refine cl hdi ?_;push_cast [hll,hla,hlx]
    repeat refine an ?_
    refine cl hsk ?_;push_cast [c3',c5'];refine cl hg ?_;push_cast [c3',c5',c7']
    try (refine cl h110 ?_;push_cast [c3',c5',c7'])
    push_cast [c9',hll];exact dn (by push_cast [ze,zd,CLe,zg,Oe,Am,zE,Wv])
 | true =>
  rw[hD]at e0 hdi;have ei:HB f b k o ops=true:=e0;have ep:qg f b k o ops=some (ops.dropLast.map fun p=>J9 (ops.getLastD []) (J8 p)):=by unfold qg;rw[if_neg c1,if_pos ei]
  have hpd:∀ x∈ops.dropLast,x.length<=1000:=fun x hx=>hp x (BO _ hx);have hdn:ops.dropLast.length=ops.length-1:=List.length_dropLast;have hgd:∀ i (h:i<ops.dropLast.length),(zE ops)[i]?=some [.str ops.dropLast[i]]:=fun i h=>by
   rw[Ws,Wa (by omega),List.getElem_dropLast];rfl
  rw[ep];generalize ops.getLastD []=z at *;generalize ops.dropLast=dl at *;rcases hc with d1 | ⟨d1,d2⟩ | ⟨d1,d2,d3⟩ | ⟨d1,d2,d3,d4⟩
  all_goals
   have c3':(k=3)=(k=3):=rfl;have c5':(S.2=0)=(S.2=0):=rfl;have c7':(X.kind=3)=(X.kind=3):=rfl
   try (have c3':=eq_true d1)
   try (have c3':=Wu d1)
   try (rw[Wm d2]at h110)
   try (rw[Wk d2]at h110)
   try (have c5':=eq_true d3)
   try (have c5':=Wu d3)
   try (have c7':=Wu d4)
   refine fof (fun i=>if i=7 then qS 12 13 else if i=16 then [false,false,false,false,false,false,false,false,false,false,false,false,false,false,false,true] else []) Tryz.func42 ?_;dsimp only[Tryz.f42];push_cast [hll,c1',c2'];refine cl h84 ?_;push_cast [hll,hla,hlx,c2']
   repeat refine an ?_
   refine cl hdi ?_;push_cast [hll,hla,hlx]
   repeat refine an ?_
   refine cl hsk ?_;push_cast [c3',c5'];refine cl hg ?_;push_cast [c3',c5',c7']
   try (refine cl h110 ?_;push_cast [c3',c5',c7'])
   push_cast [hll];refine loop (fun i:Nat=>⟨[(5,.ptr 1 0),(8,.sc (.int .i64 (ops.length:Nat))),(14,.own 0 9 1 (zE ((dl.take i).map fun p=>J9 z (J8 p)))),(15,.sc (.int .i64 i))],[[.any,.any,.any,.any],zh6 k o ops],1,0⟩) (fun i=>i<=dl.length) (fun i=>dl.length-i) 0 (Wc _) ?_ ?_
   ·exact wks [.inr (9,1)] (h4:=by push_cast [ze,zd,CLe,zg,OD,Wv,zE])
   intro i hi;by_cases hlt:i<dl.length
   ·have hlt':=eq_true (show (i:Int)+1<ops.length by omega);have hgi:(zE ops)[i]?=some [.str dl[i]]:=hgd i hlt;have hx:=hpd _ (Wx hlt);have ht:zE ((dl.take (i+1)).map fun p=>J9 z (J8 p))=zE ((dl.take i).map fun p=>J9 z (J8 p))++[[.str (J9 z (J8 dl[i]))]]:=by
     rw[OX hlt,WY];exact WY
    generalize dl[i]=p at *;have hba:=k7 p (by omega) (zao p);have hbl:=Nt p;have hj:=zcC z (J8 p) (by omega) (by omega);have htl:(zE ((dl.take i).map fun p=>J9 z (J8 p))).length=i:=by simp[zE];omega
    push_cast [hlt',hgi,hll,hla,hlx,Ol]
    repeat refine an ?_
    refine cl hba ?_;push_cast [hgi,hll,hla,hlx,Ol]
    repeat refine an ?_
    refine cl hj ?_;push_cast [htl]
    repeat refine an ?_
    exact ⟨i+1,by omega,by omega,wks [.inl 0] (h4:=by push_cast [ze,zd,CLe,zg,ht])⟩
   ·have hlt':=Wu (show ¬(i:Int)+1<ops.length by omega);have hil:i=dl.length:=by omega
    rw[hil]at hlt' ⊢;rw[Of];push_cast [hlt']
    repeat refine an ?_
    exact dn (by push_cast [ze,zd,CLe,zg,WO,OL])
end
section
open CA CB
open Go.RowKit
theorem znC (w:qV) (hw:UE w) (hs:zl4 w) (s:Int) (a:Lz) (ha:a.length<=1000000):Fun Tryz.prog GD 129 [ZB w,.agg (opL ⟨7,s,a,[],[]⟩)] (.tup [ZB (doV w ⟨7,s,a,[],[]⟩).1,.sc (.int .i64 (doV w ⟨7,s,a,[],[]⟩).2)]) 0:=by
 have ho:zdE ⟨7,s,a,[],[]⟩:=⟨ha,Wc _,Wc _⟩;have hop:=(MB 7 s a [] [] ho).gd1;cases hm:HO ⟨7,s,a,[],[]⟩ with
 | false =>
  have e:doV w ⟨7,s,a,[],[]⟩=(w,12):=by unfold doV;rw[hm];rfl
  rw[hm]at hop;rw[e];unfold opL qQ at hop;unfold opL;refine fof (fun i=>if i=3 then [false,false,false,false,false,false,false,false,false,true] else []) Tryz.func129 ?_;dsimp only[Tryz.f129];push_cast;refine cl hop ?_;push_cast;exact dn
 | true =>
  obtain ⟨p1,_⟩:=Xj hm;have e:doV w ⟨7,s,a,[],[]⟩=qW w ⟨7,s,a,[],[]⟩:=by unfold doV;rw[hm];rfl
  have hq:Fun Tryz.prog GD 213 _ _ 0:=(zfA w hw hs ⟨7,s,a,[],[]⟩ ho p1).g0;rw[hm]at hop;rw[e];unfold opL qQ at hop;unfold opL at hq ⊢;refine fof (fun i=>if i=3 then [false,false,false,false,false,false,false,false,false,true] else []) Tryz.func129 ?_;dsimp only[Tryz.f129];push_cast;refine cl hop ?_;push_cast;refine cl (xR (G:=GD)) ?_;push_cast [zln,kB,reduceIte,Int.reduceEq,WN,Or];refine cl hq ?_;push_cast;exact dn
theorem zrY (d:zW) (hd:zbA d) (p:Lz) (hp:p.length<=1000000):Fun Tryz.prog GD 75 [GQ d,.agg (opL (H9 p))] (.tup [GQ (Qa d (H9 p)).1,.sc (.int .i64 (Qa d (H9 p)).2)]) 0:=by
 have hsl:=Us (G:=GD) ⟨7,0,p,[],[]⟩;rw[Wm (show (7:Int)=3∨(7:Int)=7 by decide)]at hsl;have hb1:=hd.slot.1;have hb2:=hd.slot.2;have hopl:(d.ops.map opL).length=d.ops.length:=We ..;have hol:=hd.ops;have hl5:∀ l:List OpV,∀ r∈l.map opL,r.length=5:=fun l r hr=>by obtain ⟨x,_,rfl⟩:=WS.1 hr;rfl
 have hst:∀ l:List OpV,ji (l.map opL):=fun l r hr=>by obtain ⟨x,_,rfl⟩:=WS.1 hr;rfl
 have hX:=x9 (G:=GD) (d.ops.map opL) (([⟨7,d.slot+1,p,[],[]⟩]:List OpV).map opL) (hl5 _) (hl5 _) (hst _) (hst _) (by omega) (by simp) (by simp);rw[←WY]at hX;have hc:=(hX.fun (r:=.own 0 79 5 ((d.ops++([⟨7,d.slot+1,p,[],[]⟩]:List OpV)).map opL)) (n:=1) (by
  rintro r bx m ⟨rfl,c,B,hB,rfl,rfl⟩;exact ⟨[(0,79,5,(d.ops++([⟨7,d.slot+1,p,[],[]⟩]:List OpV)).map opL,c)],[.inl 0],hB.ok rfl (by simp) (hl5 _),rfl,rfl,by push_cast [ze,zd,CLe,zg,We]⟩)).weak (r':=.sl 5 ((d.ops++([⟨7,d.slot+1,p,[],[]⟩]:List OpV)).map opL)) (by push_cast [ze,zd,CLe,zg])
 have hdo:=znC d.w hd.wi hd.ws (d.slot+1) p hp;have ea:Qa d (H9 p)=if (doV d.w ⟨7,d.slot+1,p,[],[]⟩).2≠0 then (d,(doV d.w ⟨7,d.slot+1,p,[],[]⟩).2) else (⟨(doV d.w ⟨7,d.slot+1,p,[],[]⟩).1,d.ops++[⟨7,d.slot+1,p,[],[]⟩],d.diags,d.status,if 0<d.slot+1 then d.slot+1 else d.slot⟩,0):=by
  unfold Qa;rw[if_neg (show ¬7<(H9 p).kind by show ¬(7:Int)<7;decide),show Zl d (H9 p)=⟨7,d.slot+1,p,[],[]⟩ from rfl]
 have hmx:(if d.slot+1>d.slot then d.slot+1 else d.slot)=d.slot+1:=if_pos (by omega);unfold opL at hsl hdo;rw[show opL (H9 p) = [.sc (.int .i64 7),.sc (.int .i64 0),.str p,.str [],.str []] from rfl];by_cases hz:(doV d.w ⟨7,d.slot+1,p,[],[]⟩).2=0
 ·rw[ea,if_neg (fun h=>h hz),if_pos (show 0<d.slot+1 by omega)];rw[hz]at hdo;simp only[Wo,Wv,zpk]at hc;refine fon Tryz.func75 ?_;dsimp only[Tryz.f75];push_cast;refine cl hsl ?_;push_cast
  repeat refine an ?_
  push_cast;refine cl hdo ?_;push_cast;refine cl hc ?_;push_cast [hmx];exact dn
 ·have hz':=Wu hz;rw[ea,if_pos hz];refine fon Tryz.func75 ?_;dsimp only[Tryz.f75];push_cast;refine cl hsl ?_;push_cast
  repeat refine an ?_
  push_cast;refine cl hdo ?_;push_cast [hz'];exact dn
end
section
open CA CB
open Go.RowKit
theorem zo2 (w:qV) (hw:UE w) (hs:zl4 w) (a b:Lz) (ha:a.length<=1000000) (hb:b.length<=1000000):Fun Tryz.prog GD 129 [ZB w,.agg (opL (J4 a b))] (.tup [ZB (doV w (J4 a b)).1,.sc (.int .i64 (doV w (J4 a b)).2)]) 0:=by
 have ho:zdE ⟨6,0,a,b,[]⟩:=⟨ha,hb,Wc _⟩;have hop:=(MB 6 0 a b [] ho).gd1;unfold J4;cases hm:HO ⟨6,0,a,b,[]⟩ with
 | false =>
  have e:doV w ⟨6,0,a,b,[]⟩=(w,12):=by unfold doV;rw[hm];rfl
  rw[hm]at hop;rw[e];unfold opL qQ at hop;unfold opL;refine fof (fun i=>if i=3 then [false,false,false,false,false,false,false,false,false,true] else []) Tryz.func129 ?_;dsimp only[Tryz.f129];push_cast;refine cl hop ?_;push_cast;exact dn
 | true =>
  obtain ⟨p1,p2,_⟩:=Xj hm;have e:doV w ⟨6,0,a,b,[]⟩=JV w ⟨6,0,a,b,[]⟩:=by unfold doV;rw[hm];rfl
  have hq:Fun Tryz.prog GD 212 _ _ 0:=(zf0 w hw hs ⟨6,0,a,b,[]⟩ ho p1 (p2 rfl)).g0;rw[hm]at hop;rw[e];unfold opL qQ at hop;unfold opL at hq ⊢;refine fof (fun i=>if i=3 then [false,false,false,false,false,false,false,false,false,true] else []) Tryz.func129 ?_;dsimp only[Tryz.f129];push_cast;refine cl hop ?_;push_cast;refine cl (xR (G:=GD)) ?_;push_cast [zln,kB,reduceIte,Int.reduceEq,WN,Or];refine cl hq ?_;push_cast;exact dn
theorem zlJ (d:zW) (hd:zbA d) (p q:Lz) (hp:p.length<=1000000) (hq:q.length<=1000000):Fun Tryz.prog GD 75 [GQ d,.agg (opL (J4 p q))] (.tup [GQ (Qa d (J4 p q)).1,.sc (.int .i64 (Qa d (J4 p q)).2)]) 0:=by
 have hsl:=Us (G:=GD) (J4 p q);rw[show decide ((J4 p q).kind=3∨(J4 p q).kind=7)=false from Wk (show ¬((6:Int)=3∨(6:Int)=7) by decide)]at hsl;have hb1:=hd.slot.1;have hb2:=hd.slot.2;have hopl:(d.ops.map opL).length=d.ops.length:=We ..;have hol:=hd.ops;have hl5:∀ l:List OpV,∀ r∈l.map opL,r.length=5:=fun l r hr=>by obtain ⟨x,_,rfl⟩:=WS.1 hr;rfl
 have hst:∀ l:List OpV,ji (l.map opL):=fun l r hr=>by obtain ⟨x,_,rfl⟩:=WS.1 hr;rfl
 have hX:=x9 (G:=GD) (d.ops.map opL) (([J4 p q]:List OpV).map opL) (hl5 _) (hl5 _) (hst _) (hst _) (by omega) (by simp) (by simp);rw[←WY]at hX;have hc:=(hX.fun (r:=.own 0 79 5 ((d.ops++([J4 p q]:List OpV)).map opL)) (n:=1) (by
  rintro r bx m ⟨rfl,c,B,hB,rfl,rfl⟩;exact ⟨[(0,79,5,(d.ops++([J4 p q]:List OpV)).map opL,c)],[.inl 0],hB.ok rfl (by simp) (hl5 _),rfl,rfl,by push_cast [ze,zd,CLe,zg,We]⟩)).weak (r':=.sl 5 ((d.ops++([J4 p q]:List OpV)).map opL)) (by push_cast [ze,zd,CLe,zg])
 have hdo:=zo2 d.w hd.wi hd.ws p q hp hq;have ea:Qa d (J4 p q)=if (doV d.w (J4 p q)).2≠0 then (d,(doV d.w (J4 p q)).2) else (⟨(doV d.w (J4 p q)).1,d.ops++[J4 p q],d.diags,d.status,d.slot⟩,0):=by
  have e:Zl d (J4 p q)=J4 p q:=rfl;unfold Qa;rw[if_neg (show ¬7<(J4 p q).kind by show ¬(7:Int)<6;decide),e]
  rfl
 have hmx:¬(0>d.slot):=by omega
 rw[ea];have eo:opL (J4 p q) = [.sc (.int .i64 6),.sc (.int .i64 0),.str p,.str q,.str []]:=rfl;unfold opL at hsl;rw[show (J4 p q).kind=6 from rfl,show (J4 p q).slot=0 from rfl,show (J4 p q).a=p from rfl,show (J4 p q).b=q from rfl,show (J4 p q).d = [] from rfl]at hsl;rw[eo]at hdo ⊢;simp only[Wo,Wv,eo]at hc;by_cases hz:(doV d.w (J4 p q)).2=0
 ·rw[if_neg (fun h=>h hz)];rw[hz]at hdo;refine fon Tryz.func75 ?_;dsimp only[Tryz.f75];push_cast;refine cl hsl ?_;push_cast;refine cl hdo ?_;push_cast;refine cl hc ?_;push_cast [Wu hmx];exact dn
 ·have hz':=Wu hz;rw[if_pos hz];refine fon Tryz.func75 ?_;dsimp only[Tryz.f75];push_cast;refine cl hsl ?_;push_cast;refine cl hdo ?_;push_cast [hz'];exact dn
end
section
open CA CB
open Go.RowKit
theorem zco (f:FsV) (hf:FsI f) (hr:FsR f) (hs:FsS f) (hd:HL f.xs) (b:Lz) (hb:b.length<=100000) (k:Int) (o:Lz) (ops:List Lz) (hn:ops.length<=1000) (hp:∀ x∈ops,x.length<=1000):Fun Tryz.prog G0 39 [.agg (fsC f),.str b,.agg (zh6 k o ops)] (.tup [.sl 1 (zE ((qg f b k o ops).getD [])),.sc (.bool (qg f b k o ops).isSome)]) 0:=by
 have hll:(zE ops).length=ops.length:=We ..;have hin:=zls f hf hr hs hd b hb k o ops hn hp;by_cases c1:ops.length=1
 ·have c1':=eq_true (show (ops.length:Int)=1 by omega);obtain ⟨p,rfl⟩:=BF.1 c1;have e:qg f b k o [p]=some [J8 p]:=rfl;have hba:=zaP p (by have:=hp p Wl;omega);rw[e];refine fon Tryz.func39 ?_;dsimp only[Tryz.f39];push_cast [zE,Wo,Wv,Wh,Wz]
  repeat refine an ?_
  refine cl hba ?_;push_cast;exact dn (by push_cast [ze,zd,CLe,zg,WO,OL,zE,Wo,Wv])
 have c1':=Wu (show ¬(ops.length:Int)=1 by omega);cases c2:HB f b k o ops with
 | true =>
  rw[c2]at hin;have e:qg f b k o ops=some (ops.dropLast.map fun p=>J9 (ops.getLastD []) (J8 p)):=by unfold qg;rw[if_neg c1,if_pos c2]
  have hn2:¬ops.length<2:=fun q=>by
   unfold HB at c2;rw[Wm q]at c2;cases c2
  have hlg:=JP (ops:=ops) (by omega);have hla:(zE ops)[ops.length-1]?=some [.str (ops.getLastD [])]:=by rw[Ws,hlg];rfl
  have hlx:((ops.length:Int)-1).toNat=ops.length-1:=by omega
  have hl2:(ops.getLastD []).length<=1000:=hp _ (Wg hlg);have hdl:ops.take (ops.length-1)=ops.dropLast:=List.dropLast_eq_take.symm;have hpd:∀ x∈ops.dropLast,x.length<=1000:=fun x hx=>hp x (BO _ hx);have hdn:ops.dropLast.length=ops.length-1:=List.length_dropLast;clear hlg hp;rw[e];generalize ops.getLastD []=z at *;generalize ops.dropLast=dl at *;have hdll:(zE dl).length=dl.length:=We ..;have hdc:((ops.length:Int)-1)=(dl.length:Int):=by omega
  refine fof (fun i=>if i=9 then [false,false,false,false,false,false,false,false,false,false,false,true] else []) Tryz.func39 ?_;dsimp only[Tryz.f39];push_cast [hll,c1'];refine cl hin ?_;push_cast;push_cast [hll,hlx,hdl,hdll]
  repeat refine an ?_
  push_cast [hll,hlx,hdl,hdll];refine loop (fun i:Nat=>⟨[(5,.ptr 1 0),(8,.sc (.int .i64 (ops.length:Nat))),(9,.own 0 9 1 (zE ((dl.take i).map fun p=>J9 z (J8 p)))),(33,.sl 1 (zE dl)),(34,.sc (.int .i64 (dl.length:Nat))),(35,.sc (.int .i64 i))],[[.any,.any,.any,.any],zh6 k o ops],1,0⟩) (fun i=>i<=dl.length) (fun i=>dl.length-i) 0 (Wc _) ?_ ?_
  ·exact wks [.inr (9,1)] (h4:=by push_cast [ze,zd,CLe,zg,OD,Wv,zE,hdl])
  intro i hi;by_cases hlt:i<dl.length
  ·have hlt':=eq_true (show (i:Int)<dl.length by omega);have hgi:(zE dl)[i]?=some [.str dl[i]]:=by simp[zE,hlt]
   have hx:=hpd _ (Wx hlt);have ht:zE ((dl.take (i+1)).map fun p=>J9 z (J8 p))=zE ((dl.take i).map fun p=>J9 z (J8 p))++[[.str (J9 z (J8 dl[i]))]]:=by
    rw[OX hlt,WY];exact WY
   generalize dl[i]=p at *;have hba:=zaP p (by omega);have hbl:=Nt p;have hj:=zgm z (J8 p) (by omega) (by omega);have htl:(zE ((dl.take i).map fun p=>J9 z (J8 p))).length=i:=by simp[zE];omega
   push_cast [hlt',hgi,hll,hla,hlx,Ol]
   repeat refine an ?_
   refine cl hba ?_;push_cast [hll,hla,hlx]
   repeat refine an ?_
   refine cl hj ?_;push_cast [htl]
   repeat refine an ?_
   exact ⟨i+1,by omega,by omega,wks [.inl 0] (h4:=by push_cast [ze,zd,CLe,zg,ht])⟩
  ·have hlt':=Wu (show ¬(i:Int)<dl.length by omega);have hil:i=dl.length:=by omega
   rw[hil]at hlt' ⊢;rw[Of];push_cast [hlt'];exact dn (by push_cast [ze,zd,CLe,zg,WO,OL])
 | false =>
  rw[c2]at hin;by_cases c3:ops.length=2
  ·have c3':=eq_true (show (ops.length:Int)=2 by omega);have e:qg f b k o ops=some [ops.getLastD []]:=by unfold qg;rw[if_neg c1,if_neg (by rw[c2];decide),if_pos c3]
   have hlg:=JP (ops:=ops) (by omega);have hla:(zE ops)[1]?=some [.str (ops.getLastD [])]:=by rw[Ws,show (1:Nat)=ops.length-1 by omega,hlg];rfl
   rw[e];refine fon Tryz.func39 ?_;dsimp only[Tryz.f39];push_cast [hll,c1'];refine cl hin ?_;push_cast [hll,c3',hla]
   repeat refine an ?_
   exact dn (by push_cast [ze,zd,CLe,zg,WO,OL,zE,Wo,Wv])
  ·have c3':=Wu (show ¬(ops.length:Int)=2 by omega);have e:qg f b k o ops=none:=by unfold qg;rw[if_neg c1,if_neg (by rw[c2];decide),if_neg c3]
   rw[e];refine fon Tryz.func39 ?_;dsimp only[Tryz.f39];push_cast [hll,c1'];refine cl hin ?_;push_cast [hll,c3'];exact dn (by push_cast [ze,zd,CLe,zg,Oe,Am,zE,Wv])
end
section
open CA CB
open Go.RowKit
theorem zcf (f:FsV) (hf:FsI f) (hs:FsS f) (d o:Int):Fun Tryz.prog G0 123 [.agg (fsC f),.sc (.int .i64 d),.sc (.int .i64 o)] (.sc (.bool (UL f.xs f.xs.length d o))) 0:=by
 have hll:(zu f.xs).length=f.xs.length:=We ..;have hlen:=hs.len;refine fon Tryz.func123 ?_;dsimp only[Tryz.f123];push_cast;refine loop (fun p:Nat×Int=>⟨[(1,.sc (.int .i64 p.2)),(2,.sc (.int .i64 o)),(3,.ptr 0 0),(7,.sc (.bool false)),(12,.sc (.int .i64 (f.xs.length:Nat))),(13,.sc (.int .i64 p.1))],[fsC f],0,0⟩) (fun p=>p.1<=f.xs.length/\UL f.xs f.xs.length d o=UL f.xs (f.xs.length-p.1) p.2 o) (fun p=>f.xs.length-p.1) (0,d) ⟨Wc _,rfl⟩ ?_ ?_
 ·exact wk (h4:=by push_cast [ze,zd,CLe,zg,hll])
 rintro ⟨i,c⟩ ⟨h1,h2⟩;dsimp only at h1 h2;by_cases hi:i<f.xs.length
 ·have hi':=eq_true (show (i:Int)<f.xs.length by omega);have hg:=jm (G:=G0) f c (by omega) hf.rises;have e:UL f.xs (f.xs.length-i) c o=if c=o then true else if c=1 then false else UL f.xs (f.xs.length-(i+1)) (zf c f.xs).parent o:=by
   rw[show f.xs.length-i=(f.xs.length-(i+1))+1 by omega];rfl
  rw[e]at h2;by_cases c1:c=o
  ·have c1':=eq_true c1;rw[if_pos c1]at h2;rw[h2];push_cast [hi'];refine cl hg ?_;push_cast [c1'];exact dn
  ·have c1':=Wu c1;rw[if_neg c1]at h2;by_cases c2:c=1
   ·have c2':=eq_true c2;rw[if_pos c2]at h2;rw[h2];push_cast [hi'];refine cl hg ?_;push_cast [c1',c2'];exact dn
   ·have c2':=Wu c2;rw[if_neg c2]at h2;push_cast [hi'];refine cl hg ?_;push_cast [c1',c2']
    repeat refine an ?_
    exact ⟨(i+1,(zf c f.xs).parent),⟨by dsimp only;omega,h2⟩,by dsimp only;omega,wk⟩
 ·have hi':=Wu (show ¬(i:Int)<f.xs.length by omega);have e:UL f.xs (f.xs.length-i) c o=false:=by rw[show f.xs.length-i=0 by omega];rfl
  rw[h2,e];push_cast [hi'];exact dn
abbrev zpH (a t:zK) (x y:zo) (th:Bool):List C:=[.sc (.int .i64 a.dir),.str a.name,.sc (.int .i64 a.ino),.sc (.int .i64 t.dir),.str t.name,.sc (.int .i64 t.ino),.sc (.int .i64 x.ino),.sc (.int .i64 x.kind),.sc (.int .i64 x.links),.str x.data,.sc (.int .i64 x.parent),.sl 2 (zJ x.es),.sc (.int .i64 y.ino),.sc (.int .i64 y.kind),.sc (.int .i64 y.links),.str y.data,.sc (.int .i64 y.parent),.sl 2 (zJ y.es),.sc (.bool th)]
abbrev zol:List C:=[.sc (.int .i64 0),.str [],.sc (.int .i64 0),.sc (.int .i64 0),.str [],.sc (.int .i64 0),.sc (.int .i64 0),.sc (.int .i64 0),.sc (.int .i64 0),.str [],.sc (.int .i64 0),.sc (.slice none 0 0),.sc (.int .i64 0),.sc (.int .i64 0),.sc (.int .i64 0),.str [],.sc (.int .i64 0),.sc (.slice none 0 0),.sc (.bool false)]
abbrev vU (e:List C) (d:zW) (k:Int) (o:Lz) (ops:List Lz) (u v:Lz):List C:=e++(ztn d++(zh6 k o ops++[.str u,.str v]))
abbrev zfa (e:Int×Int) (ok:Bool):C:=.tup [.agg [.sc (.int .i64 e.1),.sc (.int .i64 e.2)],.sc (.bool ok)]
end
section
open CA CB
open Go.RowKit
theorem GrD.s (h:GrD N d) (hN:N<=9000):zbA d:=h.b.s hN
theorem zcc (h:GrD N d) (hN:N<=3000) (b:Lz) (hb:b.length<=100000) (k:Int) (o:Lz) (ops:List Lz) (u v:Lz) (hu:u.length<=3000) (hv:v.length<=3000) :
  YJ Tryz.prog GD 72 [.ptr 0 0,.str b] [vU zol d k o ops u v] 0 (fun r bx' n=>n=0/\r=zfa ((mvS d.w.fs b u v).getD (0,0)) (mvS d.w.fs b u v).isNone/\bx' = [vU (match mvS d.w.fs b u v with | some _=>zol | none=>zpH (zq d.w.fs b u false).1 (zq d.w.fs b v false).1 (zf (zq d.w.fs b u false).1.ino d.w.fs.xs) (zf (zq d.w.fs b v false).1.ino d.w.fs.xs) (zk (zq d.w.fs b v false).1.ino d.w.fs.xs)) d k o ops u v]):=by
 have hs:=(h.s (by omega)).ws.fs;have hs1:=(ZM d.w.fs h.b.wi.fs h.r.fs hs h.dat b u false hb hu).g0 (G':=GD);have hs2:=(ZM d.w.fs h.b.wi.fs h.r.fs hs h.dat b v false hb hv).g0 (G':=GD);have hg1:=jm (G:=GD) d.w.fs (zq d.w.fs b u false).1.ino (by have:=hs.len;omega) h.b.wi.fs.rises;have hg2:=jm (G:=GD) d.w.fs (zq d.w.fs b v false).1.ino (by have:=hs.len;omega) h.b.wi.fs.rises;have e:mvS d.w.fs b u v=if (zq d.w.fs b u false).2≠0 then some (11,(zq d.w.fs b u false).2) else if zk (zq d.w.fs b u false).1.ino d.w.fs.xs=false then some (11,1) else if (zq d.w.fs b u false).1.name = [] then some (15,10)
  else if (zq d.w.fs b v false).2≠0 then some (15,(zq d.w.fs b v false).2) else if (zq d.w.fs b v false).1.name = [] then some (15,10) else none:=rfl
 generalize mvS d.w.fs b u v=M at *;generalize zq d.w.fs b u false=A at *;generalize zq d.w.fs b v false=T at *;generalize zf A.1.ino d.w.fs.xs=X at *;generalize zf T.1.ino d.w.fs.xs=Y at *;by_cases h1:A.2=0
 case neg =>
  have h1':=Wu h1;rw[if_pos h1]at e;subst e;simp only[WO,Ab,Oe,Aa];refine foX (fun i=>if i=2 then qS 10 11 else if i=10 then qS 10 11 else if i=15 then Ys [(0,.pure),(1,.pure),(2,.pure),(3,.pure),(4,.pure),(5,.pure),(6,.pure),(7,.pure),(8,.pure),(9,.flt [1,2,4,5]),(10,.pure),(11,.pure),(12,.pure),(13,.flt [2,5]),(14,.pure),(15,.pure),(16,.pure),(17,.flt [])] else []) Tryz.func72 ?_;dsimp only[Tryz.f72];push_cast;refine cl hs1 ?_;push_cast [h1'];refine cl hg1 ?_;push_cast [h1'];exact ⟨_,[_],0,⟨⟨rfl,rfl,rfl⟩,Wb _⟩,[],rfl,rfl,by push_cast [ze,zd,CLe,zg],by push_cast [ze,zd,CLe,zg]⟩
 have h1':=eq_true h1;rw[if_neg (fun q=>q h1)]at e;cases h2:zk A.1.ino d.w.fs.xs with
 | false =>
  rw[h2]at hg1 e;rw[if_pos rfl]at e;subst e;simp only[WO,Ab,Oe,Aa];refine foX (fun i=>if i=2 then qS 10 11 else if i=10 then qS 10 11 else if i=15 then Ys [(0,.pure),(1,.pure),(2,.pure),(3,.pure),(4,.pure),(5,.pure),(6,.pure),(7,.pure),(8,.pure),(9,.flt [1,2,4,5]),(10,.pure),(11,.pure),(12,.pure),(13,.flt [2,5]),(14,.pure),(15,.pure),(16,.pure),(17,.flt [])] else []) Tryz.func72 ?_;dsimp only[Tryz.f72];push_cast;refine cl hs1 ?_;push_cast [h1'];refine cl hg1 ?_;push_cast [h1'];exact ⟨_,[_],0,⟨⟨rfl,rfl,rfl⟩,Wb _⟩,[],rfl,rfl,by push_cast [ze,zd,CLe,zg],by push_cast [ze,zd,CLe,zg]⟩
 | true =>
  rw[h2]at hg1 e;rw[if_neg (by decide)]at e;by_cases h3:A.1.name = []
  ·have h3':=eq_true h3;rw[if_pos h3]at e;subst e;simp only[WO,Ab,Oe,Aa];refine foX (fun i=>if i=2 then qS 10 11 else if i=10 then qS 10 11 else if i=15 then Ys [(0,.pure),(1,.pure),(2,.pure),(3,.pure),(4,.pure),(5,.pure),(6,.pure),(7,.pure),(8,.pure),(9,.flt [1,2,4,5]),(10,.pure),(11,.pure),(12,.pure),(13,.flt [2,5]),(14,.pure),(15,.pure),(16,.pure),(17,.flt [])] else []) Tryz.func72 ?_;dsimp only[Tryz.f72];push_cast;refine cl hs1 ?_;push_cast [h1'];refine cl hg1 ?_;push_cast [h1',h3'];exact ⟨_,[_],0,⟨⟨rfl,rfl,rfl⟩,Wb _⟩,[],rfl,rfl,by push_cast [ze,zd,CLe,zg],by push_cast [ze,zd,CLe,zg]⟩
  have h3':=Wu h3;rw[if_neg h3]at e;by_cases h4:T.2=0
  case neg =>
   have h4':=Wu h4;rw[if_pos h4]at e;subst e;simp only[WO,Ab,Oe,Aa];refine foX (fun i=>if i=2 then qS 10 11 else if i=10 then qS 10 11 else if i=15 then Ys [(0,.pure),(1,.pure),(2,.pure),(3,.pure),(4,.pure),(5,.pure),(6,.pure),(7,.pure),(8,.pure),(9,.flt [1,2,4,5]),(10,.pure),(11,.pure),(12,.pure),(13,.flt [2,5]),(14,.pure),(15,.pure),(16,.pure),(17,.flt [])] else []) Tryz.func72 ?_;dsimp only[Tryz.f72];push_cast;refine cl hs1 ?_;push_cast [h1'];refine cl hg1 ?_;push_cast [h1',h3'];refine cl hs2 ?_;push_cast [h4'];exact ⟨_,[_],0,⟨⟨rfl,rfl,rfl⟩,Wb _⟩,[],rfl,rfl,by push_cast [ze,zd,CLe,zg],by push_cast [ze,zd,CLe,zg]⟩
  have h4':=eq_true h4;rw[if_neg (fun q=>q h4)]at e;by_cases h5:T.1.name = []
  ·have h5':=eq_true h5;rw[if_pos h5]at e;subst e;simp only[WO,Ab,Oe,Aa];refine foX (fun i=>if i=2 then qS 10 11 else if i=10 then qS 10 11 else if i=15 then Ys [(0,.pure),(1,.pure),(2,.pure),(3,.pure),(4,.pure),(5,.pure),(6,.pure),(7,.pure),(8,.pure),(9,.flt [1,2,4,5]),(10,.pure),(11,.pure),(12,.pure),(13,.flt [2,5]),(14,.pure),(15,.pure),(16,.pure),(17,.flt [])] else []) Tryz.func72 ?_;dsimp only[Tryz.f72];push_cast;refine cl hs1 ?_;push_cast [h1'];refine cl hg1 ?_;push_cast [h1',h3'];refine cl hs2 ?_;push_cast [h4',h5'];exact ⟨_,[_],0,⟨⟨rfl,rfl,rfl⟩,Wb _⟩,[],rfl,rfl,by push_cast [ze,zd,CLe,zg],by push_cast [ze,zd,CLe,zg]⟩
  have h5':=Wu h5;rw[if_neg h5]at e;subst e;simp only[WO,Ab,Oe,Aa];refine foX (fun i=>if i=2 then qS 10 11 else if i=10 then qS 10 11 else if i=15 then Ys [(0,.pure),(1,.pure),(2,.pure),(3,.pure),(4,.pure),(5,.pure),(6,.pure),(7,.pure),(8,.pure),(9,.flt [1,2,4,5]),(10,.pure),(11,.pure),(12,.pure),(13,.flt [2,5]),(14,.pure),(15,.pure),(16,.pure),(17,.flt [])] else []) Tryz.func72 ?_;dsimp only[Tryz.f72];push_cast;refine cl hs1 ?_;push_cast [h1'];refine cl hg1 ?_;push_cast [h1',h3'];refine cl hs2 ?_;push_cast [h4',h5'];refine cl hg2 ?_;push_cast;exact ⟨_,[_],0,⟨⟨rfl,rfl,rfl⟩,Wb _⟩,[],rfl,rfl,by push_cast [ze,zd,CLe,zg],by push_cast [ze,zd,CLe,zg]⟩
end
section
open CA CB
open Go.RowKit
def H1 (x y:zo):(Int×Int)×Bool:=if x.kind=2/\y.kind≠2 then ((12,0),false) else if x.kind≠2/\y.kind=2 then ((13,0),false) else ((15,5),decide (y.es = []))
theorem ziR (a t:zK) (x y:zo) (th:Bool) (d:zW) (k:Int) (o:Lz) (ops:List Lz) (u v:Lz) (hy:y.es.length<=100000):Mr Tryz.prog GD 124 [.ptr 0 0] [vU (zpH a t x y th) d k o ops u v] 0 (zfa (H1 x y).1 (H1 x y).2) [vU (zpH a t x y th) d k o ops u v] 0:=by
 have hel:(zJ y.es).length=y.es.length:=We ..;by_cases c1:x.kind=2<;>by_cases c2:y.kind=2
 ·have c1':=eq_true c1;have c2':=eq_true c2;have e:H1 x y=((15,5),decide (y.es = [])):=by unfold H1;rw[if_neg (fun q=>q.2 c2),if_neg (fun q=>q.1 c1)]
  rw[e];by_cases c3:y.es = []
  ·have c3':((y.es.length:Int)=0)=True:=eq_true (by rw[c3];rfl);rw[Wm c3];refine foB (fun i=>if i=1 then qS 15 16 else if i=6 then Ys [(0,.pure),(1,.pure),(2,.pure),(3,.pure),(4,.pure),(5,.pure),(6,.pure),(7,.pure),(8,.pure),(9,.flt [1,2,3,4,5,6,7,8]),(10,.pure)] else []) Tryz.func124 ?_;dsimp only[Tryz.f124];push_cast [c1',c2',hel,c3'];exact ⟨[],rfl,rfl,by push_cast [ze,zd,CLe,zg],by push_cast [ze,zd,CLe,zg]⟩
  ·have c3':((y.es.length:Int)=0)=False:=Wu (by have:=WB.2 c3;omega);rw[Wk c3];refine foB (fun i=>if i=1 then qS 15 16 else if i=6 then Ys [(0,.pure),(1,.pure),(2,.pure),(3,.pure),(4,.pure),(5,.pure),(6,.pure),(7,.pure),(8,.pure),(9,.flt [1,2,3,4,5,6,7,8]),(10,.pure)] else []) Tryz.func124 ?_;dsimp only[Tryz.f124];push_cast [c1',c2',hel,c3'];exact ⟨[],rfl,rfl,by push_cast [ze,zd,CLe,zg],by push_cast [ze,zd,CLe,zg]⟩
 ·have c1':=eq_true c1;have c2':=Wu c2;have e:H1 x y=((12,0),false):=if_pos ⟨c1,c2⟩;rw[e];refine foB (fun i=>if i=1 then qS 15 16 else if i=6 then Ys [(0,.pure),(1,.pure),(2,.pure),(3,.pure),(4,.pure),(5,.pure),(6,.pure),(7,.pure),(8,.pure),(9,.flt [1,2,3,4,5,6,7,8]),(10,.pure)] else []) Tryz.func124 ?_;dsimp only[Tryz.f124];push_cast [c1',c2',hel];exact ⟨[],rfl,rfl,by push_cast [ze,zd,CLe,zg],by push_cast [ze,zd,CLe,zg]⟩
 ·have c1':=Wu c1;have c2':=eq_true c2;have e:H1 x y=((13,0),false):=by unfold H1;rw[if_neg (fun q=>c1 q.1),if_pos ⟨c1,c2⟩]
  rw[e];refine foB (fun i=>if i=1 then qS 15 16 else if i=6 then Ys [(0,.pure),(1,.pure),(2,.pure),(3,.pure),(4,.pure),(5,.pure),(6,.pure),(7,.pure),(8,.pure),(9,.flt [1,2,3,4,5,6,7,8]),(10,.pure)] else []) Tryz.func124 ?_;dsimp only[Tryz.f124];push_cast [c1',c2',hel];exact ⟨[],rfl,rfl,by push_cast [ze,zd,CLe,zg],by push_cast [ze,zd,CLe,zg]⟩
 ·have c1':=Wu c1;have c2':=Wu c2;have e:H1 x y=((15,5),decide (y.es = [])):=by unfold H1;rw[if_neg (fun q=>c1 q.1),if_neg (fun q=>c2 q.2)]
  rw[e];by_cases c3:y.es = []
  ·have c3':((y.es.length:Int)=0)=True:=eq_true (by rw[c3];rfl);rw[Wm c3];refine foB (fun i=>if i=1 then qS 15 16 else if i=6 then Ys [(0,.pure),(1,.pure),(2,.pure),(3,.pure),(4,.pure),(5,.pure),(6,.pure),(7,.pure),(8,.pure),(9,.flt [1,2,3,4,5,6,7,8]),(10,.pure)] else []) Tryz.func124 ?_;dsimp only[Tryz.f124];push_cast [c1',c2',hel,c3'];exact ⟨[],rfl,rfl,by push_cast [ze,zd,CLe,zg],by push_cast [ze,zd,CLe,zg]⟩
  ·have c3':((y.es.length:Int)=0)=False:=Wu (by have:=WB.2 c3;omega);rw[Wk c3];refine foB (fun i=>if i=1 then qS 15 16 else if i=6 then Ys [(0,.pure),(1,.pure),(2,.pure),(3,.pure),(4,.pure),(5,.pure),(6,.pure),(7,.pure),(8,.pure),(9,.flt [1,2,3,4,5,6,7,8]),(10,.pure)] else []) Tryz.func124 ?_;dsimp only[Tryz.f124];push_cast [c1',c2',hel,c3'];exact ⟨[],rfl,rfl,by push_cast [ze,zd,CLe,zg],by push_cast [ze,zd,CLe,zg]⟩
theorem zbE (h:GrD N d) (hN:N<=3000) (a t:zK) (k:Int) (o:Lz) (ops:List Lz) (u v:Lz) (hv:v.length<=3000) (ht:t.name.length<=100000) :
  Mr Tryz.prog GD 73 [.ptr 0 0] [vU (zpH a t (zf a.ino d.w.fs.xs) (zf t.ino d.w.fs.xs) (zk t.ino d.w.fs.xs)) d k o ops u v] 0 (zfa (mvJ d.w.fs o a t v).1 (mvJ d.w.fs o a t v).2) [vU (zpH a t (zf a.ino d.w.fs.xs) (zf t.ino d.w.fs.xs) (zk t.ino d.w.fs.xs)) d k o ops u v] 0:=by
 have hs:=(h.s (by omega)).ws.fs;have hha:=(zad k o (.sl 1 (zE ops)) 110 rfl).g0 (G':=GD);have hin:=(zcf d.w.fs h.b.wi.fs hs t.dir a.ino).g0 (G':=GD);have hre:Fun Tryz.prog GD 125 [.str v] (.agg [qQ (kI v),.own 0 9 1 (zE (zn v)),qQ (qI v)]) 1:=(UM v (by omega)).g0;have hma:=(zhL t.name (by omega)).g0 (G':=GD);have hye:(zf t.ino d.w.fs.xs).es.length<=100000:=by
  cases hq:zk t.ino d.w.fs.xs with
  | true=>have:=hs.es hq;omega
  | false=>rw[vn hq];exact Wc _
 have hov:=ziR a t (zf a.ino d.w.fs.xs) (zf t.ino d.w.fs.xs) true d k o ops u v hye;have e:mvJ d.w.fs o a t v=if zk t.ino d.w.fs.xs=true/\(110:UInt8)∈o then ((0,0),false)
  else if zk t.ino d.w.fs.xs=true/\a.ino=t.ino then ((9,0),false)
  else if (zf a.ino d.w.fs.xs).kind=2/\UL d.w.fs.xs d.w.fs.xs.length t.dir a.ino=true then ((14,0),false)
  else if zk t.ino d.w.fs.xs=true then H1 (zf a.ino d.w.fs.xs) (zf t.ino d.w.fs.xs)
  else if qI v=true/\(zf a.ino d.w.fs.xs).kind≠2 then ((15,3),false) else if may t.name=false then ((15,9),false) else ((0,0),true):=rfl
 generalize mvJ d.w.fs o a t v=J at *;generalize UL d.w.fs.xs d.w.fs.xs.length t.dir a.ino=I at *;generalize zf a.ino d.w.fs.xs=X at *;generalize zf t.ino d.w.fs.xs=Y at *;cases hT:zk t.ino d.w.fs.xs with
 | true =>
  rw[hT]at e;by_cases c1:(110:UInt8)∈o
  ·rw[if_pos ⟨rfl,c1⟩]at e;rw[Wm c1]at hha;subst e;refine foB (fun _=>[]) Tryz.func73 ?_;dsimp only[Tryz.f73];push_cast;refine cl hha ?_;push_cast;exact ⟨[],rfl,rfl,by push_cast [ze,zd,CLe,zg],by push_cast [ze,zd,CLe,zg]⟩
  rw[if_neg (fun q=>c1 q.2)]at e;rw[Wk c1]at hha;by_cases c2:a.ino=t.ino
  ·have c2':=eq_true c2;rw[if_pos ⟨rfl,c2⟩]at e;subst e;refine foB (fun _=>[]) Tryz.func73 ?_;dsimp only[Tryz.f73];push_cast;refine cl hha ?_;push_cast [c2'];exact ⟨[],rfl,rfl,by push_cast [ze,zd,CLe,zg],by push_cast [ze,zd,CLe,zg]⟩
  have c2':=Wu c2;rw[if_neg (fun q=>c2 q.2)]at e;by_cases c3:X.kind=2
  ·have c3':=eq_true c3;cases hI:I with
   | true =>
    rw[hI]at hin e;rw[if_pos ⟨c3,rfl⟩]at e;subst e;refine foB (fun _=>[]) Tryz.func73 ?_;dsimp only[Tryz.f73];push_cast;refine cl hha ?_;push_cast [c2',c3'];refine cl hin ?_;push_cast [c2',c3'];exact ⟨[],rfl,rfl,by push_cast [ze,zd,CLe,zg],by push_cast [ze,zd,CLe,zg]⟩
   | false =>
    rw[hI]at hin e;rw[if_neg (fun q=>by cases q.2),if_pos rfl]at e;subst e;refine foB (fun _=>[]) Tryz.func73 ?_;dsimp only[Tryz.f73];push_cast;refine cl hha ?_;push_cast [c2',c3'];refine cl hin ?_;push_cast [c2',c3'];refine VX [0] [] hov rfl (by decide) (by decide) (by simp) (by push_cast) (by push_cast) ?_;push_cast;exact ⟨[],rfl,rfl,by push_cast [ze,zd,CLe,zg],by push_cast [ze,zd,CLe,zg]⟩
  ·have c3':=Wu c3;rw[if_neg (fun q=>c3 q.1),if_pos rfl]at e;subst e;refine foB (fun _=>[]) Tryz.func73 ?_;dsimp only[Tryz.f73];push_cast;refine cl hha ?_;push_cast [c2',c3'];refine VX [0] [] hov rfl (by decide) (by decide) (by simp) (by push_cast) (by push_cast) ?_;push_cast;exact ⟨[],rfl,rfl,by push_cast [ze,zd,CLe,zg],by push_cast [ze,zd,CLe,zg]⟩
 | false =>
  rw[hT]at e;rw[if_neg (fun q=>by cases q.1),if_neg (fun q=>by cases q.1)]at e;by_cases c3:X.kind=2
  ·have c3':=eq_true c3;cases hI:I with
   | true =>
    rw[hI]at hin e;rw[if_pos ⟨c3,rfl⟩]at e;subst e;refine foB (fun _=>[]) Tryz.func73 ?_;dsimp only[Tryz.f73];push_cast [c3'];refine cl hin ?_;push_cast [c3'];exact ⟨[],rfl,rfl,by push_cast [ze,zd,CLe,zg],by push_cast [ze,zd,CLe,zg]⟩
   | false =>
    rw[hI]at hin e;rw[if_neg (fun q=>by cases q.2),if_neg (by decide),if_neg (fun q=>q.2 c3)]at e;cases hS:qI v
    all_goals
     rw[hS]at hre;cases hM:may t.name
     all_goals
      rw[hM]at hma e
      first | rw[if_pos rfl]at e | rw[if_neg (by decide)]at e
      subst e;refine foB (fun _=>[]) Tryz.func73 ?_;dsimp only[Tryz.f73];push_cast [c3'];refine cl hin ?_;push_cast [c3'];refine cl hre ?_;push_cast [c3'];refine cl hma ?_;push_cast;exact ⟨[],rfl,rfl,by push_cast [ze,zd,CLe,zg],by push_cast [ze,zd,CLe,zg]⟩
  ·have c3':=Wu c3;rw[if_neg (fun q=>c3 q.1),if_neg (by decide)]at e;cases hS:qI v with
   | true =>
    rw[hS]at hre e;rw[if_pos ⟨rfl,c3⟩]at e;subst e;refine foB (fun _=>[]) Tryz.func73 ?_;dsimp only[Tryz.f73];push_cast [c3'];refine cl hre ?_;push_cast [c3'];exact ⟨[],rfl,rfl,by push_cast [ze,zd,CLe,zg],by push_cast [ze,zd,CLe,zg]⟩
   | false =>
    rw[hS]at hre e;rw[if_neg (fun q=>by cases q.1)]at e;cases hM:may t.name
    all_goals
     rw[hM]at hma e
     first | rw[if_pos rfl]at e | rw[if_neg (by decide)]at e
     subst e;refine foB (fun _=>[]) Tryz.func73 ?_;dsimp only[Tryz.f73];push_cast [c3'];refine cl hre ?_;push_cast [c3'];refine cl hma ?_;push_cast;exact ⟨[],rfl,rfl,by push_cast [ze,zd,CLe,zg],by push_cast [ze,zd,CLe,zg]⟩
end
section
open CA CB
open Go.RowKit
abbrev xa:List C:=[.any,.any,.any,.any,.any,.any,.any,.any,.any,.any,.any,.any,.any,.any,.any,.any,.any,.any,.any,.any,.any,.any,.any,.any,.any,.any,.any,.any,.any,.any,.any,.any,.any,.any]
theorem zeD (h:GrD N d) (hN:N<=3000) (b:Lz) (hb:b.length<=100000) (k:Int) (o:Lz) (ops:List Lz) (u v:Lz) (hu:u.length<=3000) (hv:v.length<=3000) :
  YJ Tryz.prog GD 41 [.ptr 0 0,.str b] [vU zol d k o ops u v] 0 (fun r bx' n=>n=0/\r=GQ (XL b o d u v)/\∃ X,bx' = [X]):=by
 have hso:=zcc h hN b hb k o ops u v hu hv;have hdl:d.diags.length<=80000:=by have:=h.b.diags;omega
 have htl:=fun w e:Int=>zeZ d hdl 4 w u v e hu hv;cases hM:mvS d.w.fs b u v with
 | some e =>
  have eo:XL b o d u v=Yj d (Jl 4 e.1 u v e.2):=by unfold XL;rw[hM]
  have hne:=Wu (zlS hM);rw[hM]at hso;simp only[WO,Ab]at hso;have ht:=htl e.1 e.2;rw[eo];refine foX (fun i=>if i=7 then [false,false,false,false,false,false,false,false,false,false,false,false,false,false,false,false,false,true] else []) Tryz.func41 ?_;dsimp only[Tryz.f41];push_cast;refine ju [0] [] hso rfl (by decide) (by decide) (by simp) (by push_cast) (by push_cast) (fun r bx' m hp=>?_);obtain ⟨rfl,rfl,rfl⟩:=hp;push_cast [hne];refine cl ht ?_;push_cast;exact ⟨_,[xa],0,⟨⟨rfl,rfl,_,rfl⟩,Wb _⟩,[],rfl,rfl,by push_cast [ze,zd,CLe,zg,Yj],by push_cast [ze,zd,CLe,zg]⟩
 | none =>
  obtain ⟨s1,s2,s3,s4,s5⟩:=zl2 hM;have hi:=h.b.wi.fs;have hr:=h.r.fs;have hok:=h.ok (by omega);have hS:=(h.s (by omega)).ws.fs;have eo:XL b o d u v=if (mvJ d.w.fs o (zq d.w.fs b u false).1 (zq d.w.fs b v false).1 v).2 then zlb d (zq d.w.fs b u false).1 (zq d.w.fs b v false).1
   else if (mvJ d.w.fs o (zq d.w.fs b u false).1 (zq d.w.fs b v false).1 v).1.1=0 then d
   else Yj d (Jl 4 (mvJ d.w.fs o (zq d.w.fs b u false).1 (zq d.w.fs b v false).1 v).1.1 u v (mvJ d.w.fs o (zq d.w.fs b u false).1 (zq d.w.fs b v false).1 v).1.2):=by
   show (match mvS d.w.fs b u v with | some e=>_ | none=>_)=_
   rw[hM]
  have hjd:=zbE h hN (zq d.w.fs b u false).1 (zq d.w.fs b v false).1 k o ops u v hv (Gu hS b v false (by omega));rw[hM]at hso;simp only[Oe,Aa]at hso;have ha:=Yq (Xx s1) hi s2 s3;have hgt:=Xx s4;have ma:=Qq hr ha;have hjo:=zlG (f:=d.w.fs) (o:=o) (a:=(zq d.w.fs b u false).1) (t:=(zq d.w.fs b v false).1) (v:=v);have hpa:=(ya d.w.fs hok (zq d.w.fs b u false).1 ha.has ha.kind ma).g0 (G':=GD);have hla:=zbg hok ha.has ha.kind ma;generalize (zq d.w.fs b u false).1=A at *;generalize (zq d.w.fs b v false).1=T at *;cases hJ2:(mvJ d.w.fs o A T v).2 with
  | false =>
   rw[hJ2]at hjd eo;rw[if_neg (by decide)]at eo;have ht:=htl (mvJ d.w.fs o A T v).1.1 (mvJ d.w.fs o A T v).1.2;generalize (mvJ d.w.fs o A T v).1=J at *;by_cases h0:J.1=0
   ·have h0':=eq_true h0;rw[if_pos h0]at eo;rw[eo];refine foX (fun i=>if i=7 then [false,false,false,false,false,false,false,false,false,false,false,false,false,false,false,false,false,true] else []) Tryz.func41 ?_;dsimp only[Tryz.f41];push_cast;refine ju [0] [] hso rfl (by decide) (by decide) (by simp) (by push_cast) (by push_cast) (fun r bx' m hp=>?_);obtain ⟨rfl,rfl,rfl⟩:=hp;push_cast;refine VX [0] [] hjd rfl (by decide) (by decide) (by simp) (by push_cast) (by push_cast) ?_;push_cast [h0'];exact ⟨_,[xa],0,⟨⟨rfl,rfl,_,rfl⟩,Wb _⟩,[],rfl,rfl,by push_cast [ze,zd,CLe,zg],by push_cast [ze,zd,CLe,zg]⟩
   ·have h0':=Wu h0;rw[if_neg h0]at eo;rw[eo];refine foX (fun i=>if i=7 then [false,false,false,false,false,false,false,false,false,false,false,false,false,false,false,false,false,true] else []) Tryz.func41 ?_;dsimp only[Tryz.f41];push_cast;refine ju [0] [] hso rfl (by decide) (by decide) (by simp) (by push_cast) (by push_cast) (fun r bx' m hp=>?_);obtain ⟨rfl,rfl,rfl⟩:=hp;push_cast;refine VX [0] [] hjd rfl (by decide) (by decide) (by simp) (by push_cast) (by push_cast) ?_;push_cast [h0'];refine cl ht ?_;push_cast;exact ⟨_,[xa],0,⟨⟨rfl,rfl,_,rfl⟩,Wb _⟩,[],rfl,rfl,by push_cast [ze,zd,CLe,zg,Yj],by push_cast [ze,zd,CLe,zg]⟩
  | true =>
   rw[hJ2]at hjd eo;rw[if_pos rfl]at eo;obtain ⟨j1,j2,_⟩:=hjo hJ2;have gT:zk T.dir d.w.fs.xs=true/\(zf T.dir d.w.fs.xs).kind=2/\T.ino=zL T.name (zf T.dir d.w.fs.xs).es:=hgt.resolve_left s5;have mt:may T.name=true:=by
    cases hq:zk T.ino d.w.fs.xs with
    | true=>exact Qq hr (Yq hgt hi hq s5)
    | false=>exact (j2 hq).1
   have hpt:=(ya d.w.fs hok T gT.1 gT.2.1 mt).g0 (G':=GD);have hlt:=zbg hok gT.1 gT.2.1 mt;have eg:zlb d A T=(Qa (if zk T.ino d.w.fs.xs then (Qa d (H9 (zX d.w.fs T))).1 else d) (J4 (zX d.w.fs A) (zX d.w.fs T))).1:=rfl;have hrm:=zrY d (h.s (by omega)) (zX d.w.fs T) (by omega);have h1:=h.add (o:=H9 (zX d.w.fs T)) (Wc _) (show ¬(7:Int)=3 by decide);rw[show opL (H9 (zX d.w.fs T)) = [.sc (.int .i64 7),.sc (.int .i64 0),.str (zX d.w.fs T),.str [],.str []] from rfl]at hrm;cases hT:zk T.ino d.w.fs.xs with
   | true =>
    rw[hT,if_pos rfl]at eg;rw[hT]at hso hjd;have hmv:=zlJ _ (h1.s (by omega)) (zX d.w.fs A) (zX d.w.fs T) (by omega) (by omega);rw[show opL (J4 (zX d.w.fs A) (zX d.w.fs T)) = [.sc (.int .i64 6),.sc (.int .i64 0),.str (zX d.w.fs A),.str (zX d.w.fs T),.str []] from rfl]at hmv;rw[eo,eg];generalize (Qa d (H9 (zX d.w.fs T)))=R1 at *;generalize (Qa R1.1 (J4 (zX d.w.fs A) (zX d.w.fs T)))=R2 at *;refine foX (fun i=>if i=7 then [false,false,false,false,false,false,false,false,false,false,false,false,false,false,false,false,false,true] else []) Tryz.func41 ?_;dsimp only[Tryz.f41];push_cast;refine ju [0] [] hso rfl (by decide) (by decide) (by simp) (by push_cast) (by push_cast) (fun r bx' m hp=>?_);obtain ⟨rfl,rfl,rfl⟩:=hp;push_cast;refine VX [0] [] hjd rfl (by decide) (by decide) (by simp) (by push_cast) (by push_cast) ?_;push_cast;refine cl hpa ?_;push_cast;refine cl hpt ?_;push_cast;refine cl hrm ?_;push_cast;refine cl hmv ?_;push_cast;exact ⟨_,[xa],0,⟨⟨rfl,rfl,_,rfl⟩,Wb _⟩,[],rfl,rfl,by push_cast [ze,zd,CLe,zg],by push_cast [ze,zd,CLe,zg]⟩
   | false =>
    rw[hT,if_neg (by decide)]at eg;rw[hT]at hso hjd;have hmv:=zlJ d (h.s (by omega)) (zX d.w.fs A) (zX d.w.fs T) (by omega) (by omega);rw[show opL (J4 (zX d.w.fs A) (zX d.w.fs T)) = [.sc (.int .i64 6),.sc (.int .i64 0),.str (zX d.w.fs A),.str (zX d.w.fs T),.str []] from rfl]at hmv;rw[eo,eg];generalize (Qa d (J4 (zX d.w.fs A) (zX d.w.fs T)))=R2 at *;refine foX (fun i=>if i=7 then [false,false,false,false,false,false,false,false,false,false,false,false,false,false,false,false,false,true] else []) Tryz.func41 ?_;dsimp only[Tryz.f41];push_cast;refine ju [0] [] hso rfl (by decide) (by decide) (by simp) (by push_cast) (by push_cast) (fun r bx' m hp=>?_);obtain ⟨rfl,rfl,rfl⟩:=hp;push_cast;refine VX [0] [] hjd rfl (by decide) (by decide) (by simp) (by push_cast) (by push_cast) ?_;push_cast;refine cl hpa ?_;push_cast;refine cl hpt ?_;push_cast;refine cl hmv ?_;push_cast;exact ⟨_,[xa],0,⟨⟨rfl,rfl,_,rfl⟩,Wb _⟩,[],rfl,rfl,by push_cast [ze,zd,CLe,zg],by push_cast [ze,zd,CLe,zg]⟩
end
section
open CA CB
open Go.RowKit
theorem Z1 (k:Int) (b o:Lz) (ops:List Lz) {N:Nat} {d:zW} (h:GrD N d) (hN:N+2*ops.length+2<=2000) (hb:b.length<=1000) (hp:∀ x∈ops,x.length<=1000) (h1:0<ops.length):Fun Tryz.prog GD 12 [GQ d,.str b,.agg (zh6 k o ops)] (GQ (yN k b o ops d)) 0:=by
 have hll:(zE ops).length=ops.length:=We ..;have hS:=(h.s (by omega)).ws.fs;have hpl:=(zco d.w.fs h.b.wi.fs h.r.fs hS h.dat b (by omega) k o ops (by omega) hp).g0 (G':=GD);have e:yN k b o ops d=match qg d.w.fs b k o ops with | none=>Yj d (Jl k 10 (ops.getLastD []) [] 0) | some ps=>zae b o (ops.zip ps) d:=rfl
 cases hP:qg d.w.fs b k o ops with
 | none =>
  rw[hP]at hpl e;simp only[Oe,Am]at hpl;have hlg:=JP h1;have hla:(zE ops)[ops.length-1]?=some [.str (ops.getLastD [])]:=by rw[Ws,hlg];rfl
  have hlx:((ops.length:Int)-1).toNat=ops.length-1:=by omega
  have hl2:(ops.getLastD []).length<=1000:=hp _ (Wg hlg);have ht:=zeZ d (by have:=h.b.diags;omega) k 10 (ops.getLastD []) [] 0 (by omega) (Wc _);rw[e];refine fof (fun i=>if i=3 then [false,false,false,false,false,false,false,false,false,false,false,false,true] else if i=7 then [false,false,false,false,false,false,false,false,false,true] else []) Tryz.func12 ?_;dsimp only[Tryz.f12];push_cast;refine cl hpl ?_;push_cast [hll,hla,hlx]
  repeat refine an ?_
  refine cl ht ?_;push_cast;exact dn (by push_cast [ze,zd,CLe,zg,Yj])
 | some ps =>
  rw[hP]at hpl e;simp only[WO,OL]at hpl;obtain ⟨p1,p2⟩:=Ge hP hp;have hpsl:(zE ps).length=ps.length:=We ..;have hz:(ops.zip ps).length=ps.length:=by rw[BS];omega
  have e:yN k b o ops d=zae b o (ops.zip ps) d:=e;rw[e];refine fof (fun i=>if i=3 then [false,false,false,false,false,false,false,false,false,false,false,false,true] else if i=7 then [false,false,false,false,false,false,false,false,false,true] else []) Tryz.func12 ?_;dsimp only[Tryz.f12];push_cast;refine cl hpl ?_;push_cast [hpsl];refine loop (fun q:Nat×zW=>⟨[(1,.str b),(3,.ptr 0 0),(5,.ptr 1 0),(6,.ptr 2 0),(35,.sl 1 (zE ps)),(36,.sc (.int .i64 (ps.length:Nat))),(37,.sc (.int .i64 q.1))],[ztn q.2,zh6 k o ops,xH],0,0⟩) (fun q=>q.1<=ps.length/\q.2=zae b o ((ops.zip ps).take q.1) d/\GrD (N+2*q.1) q.2) (fun q=>ps.length-q.1) (0,d) ⟨Wc _,rfl,h⟩ ?_ ?_
  ·exact wk (h4:=by push_cast [ze,zd,CLe,zg,hpsl])
  rintro ⟨i,D⟩ ⟨i1,i2,i3⟩;dsimp only at i1 i2 i3;by_cases hi:i<ps.length
  case neg =>
   have hil:i=ps.length:=by omega
   have hi':=Wu (show ¬(i:Int)<ps.length by omega);rw[hil,←hz,Of]at i2;push_cast [hi'];rw[←i2];exact dn
  have hi':=eq_true (show (i:Int)<ps.length by omega);have hio:i<ops.length:=by omega
  have hgp:(zE ps)[i]?=some [.str ps[i]]:=by simp[zE,hi]
  have hgo:(zE ops)[i]?=some [.str ops[i]]:=by simp[zE,hio]
  have hlp:=p2 _ (Wx hi);have hlo:=hp _ (Wx hio);have hst:XL b o D ops[i] ps[i]=zae b o ((ops.zip ps).take (i+1)) d:=by
   have hzi:i<(ops.zip ps).length:=by omega
   rw[OX hzi];unfold zae;rw[BE];show XL b o D ops[i] ps[i]=XL b o (zae b o ((ops.zip ps).take i) d) (ops.zip ps)[i].1 (ops.zip ps)[i].2;rw[←i2,List.getElem_zip]
  have hG:=zmg i3 b o ops[i] ps[i];have hg:=zeD i3 (by omega) b (by omega) k o ops ops[i] ps[i] (by omega) (by omega);generalize ops[i]=u at *;generalize ps[i]=v at *;generalize XL b o D u v=D2 at *;push_cast [hi',hgp,hgo,hll,hpsl,Ol]
  repeat refine an ?_
  push_cast [hi',hgp,hgo,hll,hpsl,Ol]
  repeat refine an ?_
  refine ju [3] [] hg rfl (by decide) (by decide) (by simp) (by push_cast) (by push_cast) (fun r bx' m hp=>?_);obtain ⟨rfl,rfl,X,rfl⟩:=hp;push_cast
  repeat refine an ?_
  exact ⟨(i+1,D2),⟨by dsimp only;omega,hst,by rw[show N+2*(i+1)=N+2*i+2 by omega];exact hG⟩,by dsimp only;omega,wk⟩
end
section
open CA CB
open Go.RowKit
theorem zbe (hi:FsI f) (hr:FsR f) {b p:Lz} {w:Bool} (h:(zq f b p w).2=0):(zq f b p w).1.ino=0∨zk (zq f b p w).1.ino f.xs=true:=
 za9 (P:=fun s=>s.ino=0∨zk s.ino f.xs=true) (Q:=fun m=>zk m f.xs=true) (fun m q=>.inr q) hi.root (fun m hk=>⟨Ja hk,zhy hi hr (Ja hk) hk⟩) (fun m n hk=>by
  cases hq:Yo n (zf m f.xs).es with
  | true=>exact .inr (Qf hi (Ja hk) hq)
  | false =>
   left
   unfold Yo at hq;rw[qC]at hq;show zL n (zf m f.xs).es=0;unfold zL;cases hz:jk zS.name n (zf m f.xs).es with
   | none=>rfl
   | some e=>rw[hz]at hq;cases hq) h
theorem zmv (h:MvC N d) (hN:N<=2990) {a t:zK} (ha:zx d.w.fs a) (ht:zx d.w.fs t) (he:(zf t.ino d.w.fs.xs).es = []) (hn:a.ino≠t.ino):FsI (zl d.w.fs t)/\FsS (zl d.w.fs t)/\zx (zl d.w.fs t) a/\JF (zl d.w.fs t) t:=by
 have hi:=h.g.b.wi.fs;obtain ⟨q1,q2⟩:=Qm (h.g.ok (by omega)) ht.has ht.kind (Qq h.g.r.fs ht);have e0:(⟨t.dir,t.name,zL t.name (zf t.dir d.w.fs.xs).es⟩:zK)=t:=by unfold zL;rw[ht.there]
 rw[e0]at q2;obtain ⟨s1,s2,_⟩:=zbq h (by omega) ht he q1 q2;have hf:=(yn hi ht he).1;have s3:=(s2.g.s (by omega)).ws.fs;have s4:=s2.g.b.wi.fs;rw[s1]at s3 s4;exact ⟨s4,s3,(Gt hi ht he ha hn).1,⟨hf.has,hf.kind,hf.free⟩⟩
theorem zkG (h:MvC N d) (hN:N<=2990) (b:Lz) (hb:b.length<=1000) (k:Int) (o:Lz) (ho:o.length<=1000) (ops:List Lz) (u v:Lz) (hu:u.length<=3000) (hv:v.length<=3000) :
  Fun Tryz.prog G0 44 [.agg (fsC d.w.fs),.str b,.agg (zh6 k o ops),.str u,.str v] (.tup [.agg (fsC (mvR b o d.w.fs u v).1),.sc (.int .i64 (mvR b o d.w.fs u v).2.1),.sc (.int .i64 (mvR b o d.w.fs u v).2.2)]) 0:=by
 have hi:=h.g.b.wi.fs;have hr:=h.g.r.fs;have hs:=(h.g.s (by omega)).ws.fs;have hok:=h.g.ok (by omega);have hU:=fun (a t:zK)=>zmv h hN (a:=a) (t:=t);generalize d.w.fs=f at *;have hA:=ZU f hi hs b u false (by omega) (by omega);have hB:=ZU f hi hs b v false (by omega) (by omega);have sA:=zbe hi hr (b:=b) (p:=u) (w:=false);have sB:=zbe hi hr (b:=b) (p:=v) (w:=false);have gA:=Xx (f:=f) (b:=b) (p:=u) (follow:=false);have gB:=Xx (f:=f) (b:=b) (p:=v) (follow:=false);have nT:=Gu hs b v false (by omega);have e1:mvS f b u v=if (zq f b u false).2≠0 then some (11,(zq f b u false).2) else if zk (zq f b u false).1.ino f.xs=false then some (11,1) else if (zq f b u false).1.name = [] then some (15,10)
  else if (zq f b v false).2≠0 then some (15,(zq f b v false).2) else if (zq f b v false).1.name = [] then some (15,10) else none:=rfl
 have e2:mvR b o f u v=match mvS f b u v with
  | some e=>(f,e.1,e.2)
  | none=>if (mvJ f o (zq f b u false).1 (zq f b v false).1 v).2 then (jN (if zk (zq f b v false).1.ino f.xs then zl f (zq f b v false).1 else f) (zq f b u false).1 (zq f b v false).1,0,0)
   else (f,(mvJ f o (zq f b u false).1 (zq f b v false).1 v).1.1,(mvJ f o (zq f b u false).1 (zq f b v false).1 v).1.2):=rfl
 rw[e1]at e2;clear e1;generalize mvR b o f u v=R at *;generalize zq f b u false=A at *;generalize zq f b v false=T at *;obtain ⟨a,ea⟩:=A;obtain ⟨t,et⟩:=T;dsimp only at hA hB sA sB gA gB nT e2;have z0:zk (0:Int) f.xs=false:=by
  cases hq:zk (0:Int) f.xs with
  | false=>rfl
  | true=>exact absurd rfl (Xq hi hq)
 rcases OB (ea=0) with c1 | c1
 case inr =>
  have e:R=(f,11,ea):=by rw[e2];simp[c1]
  rw[e];refine fon Tryz.func44 ?_;dsimp only[Tryz.f44];push_cast;refine cl hA ?_;push_cast [c1];exact dn
 have sA:=sA (BJ c1);rcases OB (a.ino=0) with c2 | c2
 case inl =>
  have e:R=(f,11,1):=by rw[e2,BJ c2];simp[c1,z0]
  rw[e];refine fon Tryz.func44 ?_;dsimp only[Tryz.f44];push_cast;refine cl hA ?_;push_cast [c1,c2];exact dn
 have x1:=sA.resolve_left (Bh c2);rcases OB (a.name = []) with c3 | c3
 case inl =>
  have e:R=(f,15,10):=by rw[e2];simp[c1,x1,c3]
  rw[e];refine fon Tryz.func44 ?_;dsimp only[Tryz.f44];push_cast;refine cl hA ?_;push_cast [c1,c2,c3];exact dn
 rcases OB (et=0) with c4 | c4
 case inr =>
  have e:R=(f,15,et):=by rw[e2];simp[c1,x1,c3,c4]
  rw[e];refine fon Tryz.func44 ?_;dsimp only[Tryz.f44];push_cast;refine cl hA ?_;push_cast [c1,c2,c3];refine cl hB ?_;push_cast [c4];exact dn
 rcases OB (t.name = []) with c5 | c5
 case inl =>
  have e:R=(f,15,10):=by rw[e2];simp[c1,x1,c3,c4,c5]
  rw[e];refine fon Tryz.func44 ?_;dsimp only[Tryz.f44];push_cast;refine cl hA ?_;push_cast [c1,c2,c3];refine cl hB ?_;push_cast [c4,c5];exact dn
 have hta:=Yq (gA (BJ c1)) hi x1 (Bh c3);have gT:=gB (BJ c4);have tk:(zf t.dir f.xs).kind=2:=(gT.resolve_left (Bh c5)).2.1;have hin:=Za o 110 (by omega);have hgx:=qt (G:=G0) f a.ino (by have:=hs.len;omega);have hgy:=qt (G:=G0) f t.ino (by have:=hs.len;omega);have hns:=uQ f (by have:=hs.len;omega) t.dir a.ino;rw[zjj hok hr hta tk]at hns;have hre:Fun Tryz.prog G0 82 [.str v] (.agg [qQ (kI v),.own 0 9 1 (zE (zn v)),qQ (qI v)]) 1:=Zr v (by omega);have hma:=VM t.name (by omega);have e:R=if (mvJ f o a t v).2 then (jN (if zk t.ino f.xs then zl f t else f) a t,0,0) else (f,(mvJ f o a t v).1.1,(mvJ f o a t v).1.2):=by rw[e2];simp[c1,x1,c3,c4,c5]
 clear e2;have hye:(zJ (zf t.ino f.xs).es).length=(zf t.ino f.xs).es.length:=We ..;rcases sB (BJ c4) with c6 | c6
 ·have c6':=eq_true c6;have y1:zk t.ino f.xs=false:=by rw[c6];exact z0
  have c7:=Wu (show ¬a.ino=t.ino by rw[c6];exact Bh c2);rw[y1]at hgy;unfold mvJ at e;rcases OB ((zf a.ino f.xs).kind=2) with c8 | c8
  ·cases hI:UL f.xs f.xs.length t.dir a.ino with
   | true =>
    rw[hI]at hns;simp[y1,c7,c8,hI]at e;rw[e];refine fon Tryz.func44 ?_;dsimp only[Tryz.f44];push_cast;refine cl hA ?_;push_cast [c1,c2,c3];refine cl hB ?_;push_cast [c4,c5,c6',c7];refine cl hgx ?_;push_cast;refine cl hgy ?_;push_cast [c8];refine cl hns ?_;push_cast;exact dn
   | false =>
    rw[hI]at hns;cases hm:may t.name with
    | false =>
     rw[hm]at hma;simp[y1,c7,c8,hI,hm]at e;rw[e];refine fon Tryz.func44 ?_;dsimp only[Tryz.f44];push_cast;refine cl hA ?_;push_cast [c1,c2,c3];refine cl hB ?_;push_cast [c4,c5,c6',c7];refine cl hgx ?_;push_cast;refine cl hgy ?_;push_cast [c8];refine cl hns ?_;push_cast [c6',c8];refine cl hma ?_;push_cast;exact dn
    | true =>
     rw[hm]at hma;simp[y1,c7,c8,hI,hm]at e;rw[e];have hmv:=MM f hi hs a t hta (kW hi gT c6 hm) c6;refine fon Tryz.func44 ?_;dsimp only[Tryz.f44];push_cast;refine cl hA ?_;push_cast [c1,c2,c3];refine cl hB ?_;push_cast [c4,c5,c6',c7];refine cl hgx ?_;push_cast;refine cl hgy ?_;push_cast [c8];refine cl hns ?_;push_cast [c6',c8];refine cl hma ?_;push_cast;refine cl hmv ?_;push_cast;exact dn
  ·cases hl:qI v with
   | true =>
    rw[hl]at hre;simp[y1,c7,c8,hl]at e;rw[e];refine fon Tryz.func44 ?_;dsimp only[Tryz.f44];push_cast;refine cl hA ?_;push_cast [c1,c2,c3];refine cl hB ?_;push_cast [c4,c5,c6',c7];refine cl hgx ?_;push_cast;refine cl hgy ?_;push_cast [c6',c8];refine cl hre ?_;push_cast;exact dn
   | false =>
    rw[hl]at hre;cases hm:may t.name with
    | false =>
     rw[hm]at hma;simp[y1,c7,c8,hl,hm]at e;rw[e];refine fon Tryz.func44 ?_;dsimp only[Tryz.f44];push_cast;refine cl hA ?_;push_cast [c1,c2,c3];refine cl hB ?_;push_cast [c4,c5,c6',c7];refine cl hgx ?_;push_cast;refine cl hgy ?_;push_cast [c6',c8];refine cl hre ?_;push_cast;refine cl hma ?_;push_cast;exact dn
    | true =>
     rw[hm]at hma;simp[y1,c7,c8,hl,hm]at e;rw[e];have hmv:=MM f hi hs a t hta (kW hi gT c6 hm) c6;refine fon Tryz.func44 ?_;dsimp only[Tryz.f44];push_cast;refine cl hA ?_;push_cast [c1,c2,c3];refine cl hB ?_;push_cast [c4,c5,c6',c7];refine cl hgx ?_;push_cast;refine cl hgy ?_;push_cast [c6',c8];refine cl hre ?_;push_cast;refine cl hma ?_;push_cast;refine cl hmv ?_;push_cast;exact dn
 ·have c6':=Wu (Xq hi c6);rw[c6]at hgy;unfold mvJ at e;by_cases hn:(110:UInt8)∈o
  ·rw[Wm hn]at hin;simp[c6,hn]at e;rw[e];refine fon Tryz.func44 ?_;dsimp only[Tryz.f44];push_cast;refine cl hA ?_;push_cast [c1,c2,c3];refine cl hB ?_;push_cast [c4,c5,c6'];refine cl hin ?_;push_cast;exact dn
  rw[Wk hn]at hin;rcases OB (a.ino=t.ino) with c7 | c7
  ·simp[c6,hn,c7]at e;rw[e];refine fon Tryz.func44 ?_;dsimp only[Tryz.f44];push_cast;refine cl hA ?_;push_cast [c1,c2,c3];refine cl hB ?_;push_cast [c4,c5,c6'];refine cl hin ?_;push_cast [c7];exact dn
  have htt:=Yq gT hi c6 (Bh c5);have hU:=hU a t hta htt;have hun:=zac f hi hs t htt;have hU:(zf t.ino f.xs).es = []->Fun Tryz.prog G0 83 [.agg (fsC f),.agg (jt a),.agg (jt t)] (.agg (fsC (jN (zl f t) a t))) 0:=fun q=>by
   obtain ⟨u1,u2,u3,u4⟩:=hU q (Bh c7);exact zca f (zl f t) u1 u2 a t u3 u4 (Bh c6') hun
  rcases OB ((zf a.ino f.xs).kind=2) with c8 | c8<;>rcases OB ((zf t.ino f.xs).kind=2) with c9 | c9<;>rcases OB ((zf t.ino f.xs).es = []) with ce | ce
  all_goals
   have hle:((0:Int)<(zf t.ino f.xs).es.length) = ¬((zf t.ino f.xs).es = []):=by
    exact propext ⟨fun q z=>by rw[z]at q;exact absurd q (by decide),fun q=>by have:=WB.2 q;omega⟩
   rw[ce]at hle;cases hI:UL f.xs f.xs.length t.dir a.ino
   all_goals
    rw[hI]at hns;simp[c6,hn,c7,c8,c9,ce,hI]at e;rw[e];refine fon Tryz.func44 ?_;dsimp only[Tryz.f44];push_cast;refine cl hA ?_;push_cast [c1,c2,c3];refine cl hB ?_;push_cast [c4,c5,c6'];refine cl hin ?_;push_cast [c7];refine cl hgx ?_;push_cast;refine cl hgy ?_;push_cast [c6',c8,c9,hye,hle]
    try (refine cl hns ?_;push_cast [c6',c8,c9,hye,hle])
    try (refine cl (hU (BJ ce)) ?_;push_cast)
    exact dn
end
section
open CA CB
open Go.RowKit
def YK (w:qV) (b:Lz) (l:List Lz):Prop:=(∀ x∈l.take 20,x.length<=1000)/\okW w/\w.fs.next<549755813888/\Jd w.kept<536870912/\ZO w.fs b []=true/\JY b=true/\l.length<=6
instance (w:qV) (b:Lz) (l:List Lz):Decidable (YK w b l):=by unfold YK;infer_instance
theorem zdP (w:qV) (b:Lz) (l:List Lz) (hb:b.length<=2000000):Fun Tryz.prog G0 10 [ZB w,.str b,.sl 1 (zE l)] (qQ (decide (YK w b l))) 0:=by
 have hll:(zE l).length=l.length:=We ..;have hpl:=Uh b hb;unfold YP at hpl;have hok:=zeU w;have hsh:=zdF w.fs b [];refine fon Tryz.func10 ?_;dsimp only[Tryz.f10];push_cast;refine cl hpl ?_;push_cast;refine loop (fun i:Nat=>⟨[(1,.str b),(2,.sl 1 (zE l)),(3,.ptr 0 0),(8,.sc (.bool (JY b))),(9,.sc (.int .i64 i))],[Mq w],0,0⟩) (fun i=>i<=l.length/\i<=20/\∀ x∈l.take i,x.length<=1000) (fun i=>l.length-i) 0 ⟨Wc _,Wc _,fun x hx=>by rw[OD]at hx;cases hx⟩ ?_ ?_
 ·exact wk
 rintro i ⟨h1,h2,h3⟩;by_cases hi:i<l.length
 ·have hi':=eq_true (show (i:Int)<l.length by omega);by_cases h20:i<20
  ·have h20':=eq_true (show (i:Int)<20 by omega);have hgi:(zE l)[i]?=some [.str l[i]]:=by simp[zE,hi]
   have ht:l.take (i+1)=l.take i++[l[i]]:=OX hi;by_cases hx:l[i].length<=1000
   ·have hx':=Wu (show ¬(1000:Int)<l[i].length by omega);push_cast [hi',h20',hgi,hll,hx',Ol]
    repeat refine an ?_
    exact ⟨i+1,⟨by omega,by omega,fun x hm=>by
     rw[ht]at hm;rcases WF.1 hm with hm | hm
     ·exact h3 x hm
     ·rw[W3.1 hm];exact hx⟩,by omega,wk⟩
   ·have hx':=eq_true (show (1000:Int)<l[i].length by omega);have hn:¬YK w b l:=fun h=>hx (h.1 _ (AI.2 ⟨i,by omega,rfl⟩));push_cast [hi',h20',hgi,hll,hx',Ol]
    repeat refine an ?_
    exact dn (by push_cast [ze,zd,CLe,zg,hn])
  ·have h20':=Wu (show ¬(i:Int)<20 by omega);have hx:∀ x∈l.take 20,x.length<=1000:=by rw[show i=20 by omega]at h3;exact h3
   by_cases k1:okW w
   case neg =>
    have hn:¬YK w b l:=fun h=>k1 h.2.1;rw[Wk k1]at hok;push_cast [hi',h20',hll];refine cl hok ?_;push_cast;exact dn (by push_cast [ze,zd,CLe,zg,hn])
   rw[Wm k1]at hok;have hs:=k1.2.2.2.2.1;have hla:=kM (G:=G0) w (by have:=(zhC k1).klen;omega) hs.1 hs.2;by_cases k2:w.fs.next<549755813888
   case neg =>
    have hn:¬YK w b l:=fun h=>k2 h.2.2.1;have k2':=Wu k2;push_cast [hi',h20',hll];refine cl hok ?_;push_cast [k2'];exact dn (by push_cast [ze,zd,CLe,zg,hn])
   have k2':=eq_true k2;by_cases k3:Jd w.kept<536870912
   case neg =>
    have hn:¬YK w b l:=fun h=>k3 h.2.2.2.1;have k3':=Wu k3;push_cast [hi',h20',hll];refine cl hok ?_;push_cast [k2'];refine cl hla ?_;push_cast [k3'];exact dn (by push_cast [ze,zd,CLe,zg,hn])
   have k3':=eq_true k3;cases k4:ZO w.fs b []
   case false =>
    have hn:¬YK w b l:=fun h=>by rw[h.2.2.2.2.1]at k4;cases k4
    rw[k4]at hsh;push_cast [hi',h20',hll];refine cl hok ?_;push_cast [k2'];refine cl hla ?_;push_cast [k3'];refine cl hsh ?_;push_cast;exact dn (by push_cast [ze,zd,CLe,zg,hn])
   rw[k4]at hsh;cases k5:JY b
   case false =>
    have hn:¬YK w b l:=fun h=>by rw[h.2.2.2.2.2.1]at k5;cases k5
    push_cast [hi',h20',hll];refine cl hok ?_;push_cast [k2'];refine cl hla ?_;push_cast [k3'];refine cl hsh ?_;push_cast;exact dn (by push_cast [ze,zd,CLe,zg,hn])
   by_cases k6:l.length<=6
   ·have hn:YK w b l:=⟨hx,k1,k2,k3,k4,k5,k6⟩;have k6':=eq_true (show (l.length:Int)<=6 by omega);push_cast [hi',h20',hll];refine cl hok ?_;push_cast [k2'];refine cl hla ?_;push_cast [k3'];refine cl hsh ?_;push_cast [hll,k6'];exact dn (by push_cast [ze,zd,CLe,zg,hn])
   ·have hn:¬YK w b l:=fun h=>k6 h.2.2.2.2.2.2;have k6':=Wu (show ¬(l.length:Int)<=6 by omega);push_cast [hi',h20',hll];refine cl hok ?_;push_cast [k2'];refine cl hla ?_;push_cast [k3'];refine cl hsh ?_;push_cast [hll,k6'];exact dn (by push_cast [ze,zd,CLe,zg,hn])
 ·have hi':=Wu (show ¬(i:Int)<l.length by omega);have hx:∀ x∈l.take 20,x.length<=1000:=by
   rw[show i=l.length by omega,Of]at h3;exact fun x hm=>h3 x (WC hm)
  by_cases k1:okW w
  case neg =>
   have hn:¬YK w b l:=fun h=>k1 h.2.1;rw[Wk k1]at hok;push_cast [hi',hll];refine cl hok ?_;push_cast;exact dn (by push_cast [ze,zd,CLe,zg,hn])
  rw[Wm k1]at hok;have hs:=k1.2.2.2.2.1;have hla:=kM (G:=G0) w (by have:=(zhC k1).klen;omega) hs.1 hs.2;by_cases k2:w.fs.next<549755813888
  case neg =>
   have hn:¬YK w b l:=fun h=>k2 h.2.2.1;have k2':=Wu k2;push_cast [hi',hll];refine cl hok ?_;push_cast [k2'];exact dn (by push_cast [ze,zd,CLe,zg,hn])
  have k2':=eq_true k2;by_cases k3:Jd w.kept<536870912
  case neg =>
   have hn:¬YK w b l:=fun h=>k3 h.2.2.2.1;have k3':=Wu k3;push_cast [hi',hll];refine cl hok ?_;push_cast [k2'];refine cl hla ?_;push_cast [k3'];exact dn (by push_cast [ze,zd,CLe,zg,hn])
  have k3':=eq_true k3;cases k4:ZO w.fs b []
  case false =>
   have hn:¬YK w b l:=fun h=>by rw[h.2.2.2.2.1]at k4;cases k4
   rw[k4]at hsh;push_cast [hi',hll];refine cl hok ?_;push_cast [k2'];refine cl hla ?_;push_cast [k3'];refine cl hsh ?_;push_cast;exact dn (by push_cast [ze,zd,CLe,zg,hn])
  rw[k4]at hsh;cases k5:JY b
  case false =>
   have hn:¬YK w b l:=fun h=>by rw[h.2.2.2.2.2.1]at k5;cases k5
   push_cast [hi',hll];refine cl hok ?_;push_cast [k2'];refine cl hla ?_;push_cast [k3'];refine cl hsh ?_;push_cast;exact dn (by push_cast [ze,zd,CLe,zg,hn])
  by_cases k6:l.length<=6
  ·have hn:YK w b l:=⟨hx,k1,k2,k3,k4,k5,k6⟩;have k6':=eq_true (show (l.length:Int)<=6 by omega);push_cast [hi',hll];refine cl hok ?_;push_cast [k2'];refine cl hla ?_;push_cast [k3'];refine cl hsh ?_;push_cast [hll,k6'];exact dn (by push_cast [ze,zd,CLe,zg,hn])
  ·have hn:¬YK w b l:=fun h=>k6 h.2.2.2.2.2.2;have k6':=Wu (show ¬(l.length:Int)<=6 by omega);push_cast [hi',hll];refine cl hok ?_;push_cast [k2'];refine cl hla ?_;push_cast [k3'];refine cl hsh ?_;push_cast [hll,k6'];exact dn (by push_cast [ze,zd,CLe,zg,hn])
theorem zjC (k:Int) (l:List Lz) (hk:k=1∨k=2∨k=3∨k=4∨k=5) (hl:l.length<=90) (hs:∀ x∈l,x.length<=1000):Fun Tryz.prog G0 11 [.sc (.int .i64 k),.sl 1 (zE l)] (.tup [ztF (J6 (jn k :: l)).1,qQ (decide ((J6 (jn k :: l)).2 = []))]) 1:=by
 have hn:=Hg k;have hll:(zE l).length=l.length:=We ..;have hr:=zgM (jn k :: l) (by rw[Wh];omega) (fun x hx=>by
  rcases WK.1 hx with rfl | hx
  ·rcases hk with rfl | rfl | rfl | rfl | rfl<;>decide
  ·exact hs x hx)
 have e:zE (jn k :: l) = [.str (jn k)] :: zE l:=rfl;rw[e]at hr;refine fof (fun i=>if i=1 then qS 9 10 else if i=2 then [false,false,false,true] else []) Tryz.func11 ?_;dsimp only[Tryz.f11];push_cast;refine cl hn ?_;push_cast
 repeat refine an ?_
 refine cl hr ?_;push_cast;exact ⟨[.inl 1],rfl,rfl,by push_cast [ze,zd,CLe,zg]⟩
end
section
theorem ziF (k:Int) (s:Lz):(YF k s 58).length<=58:=by
 unfold YF;refine WL (OG _ _) ?_;simp
theorem uo (l:List Lz):(J6 l).1.opts.length<=58/\(J6 l).1.operands.length<=l.length/\∀ x∈(J6 l).1.operands,x∈l:=by
 refine ⟨?_,zg9 l,?_⟩
 ·cases l with
  | nil=>exact Wc _
  | cons w r =>
   rw[J6];split
   ·exact Wc _
   ·unfold jL;split
    ·exact Wc _
    ·split
     ·exact Wc _
     ·exact ziF _ _
 ·cases l with
  | nil=>intro x hx;cases hx
  | cons w r =>
   rw[J6];split
   ·intro x hx;cases hx
   ·unfold jL;split
    ·intro x hx;cases hx
    ·split
     ·intro x hx;cases hx
     ·exact fun x hx=>Wn _ (WU hx)
theorem zjk {w:qV} (h:YK w b l):HL w.fs.xs/\b.length<=1000:=by
 have hs:=h.2.2.2.2.1;have hl:=(zhC h.2.1).len;unfold ZO at hs;simp only[Wt,W6,AE,Og]at hs;obtain ⟨⟨h1,h2⟩,_⟩:=hs;rw[Wf (by omega)]at h1;refine ⟨fun x hx hk=>?_,by omega⟩;have:=h1 x hx;unfold UF at this;simp only[Wt,W6,not_and]at this;have:=this hk;omega
theorem Gb {w:qV} (h:YK w b l):∀ x∈l,x.length<=1000:=by
 have h1:=h.1;rw[Wf (by have:=h.2.2.2.2.2.2;omega)]at h1;exact h1
theorem zdN (w:Lz) (r:List Lz):(J6 (w :: r)).1.operands.length<=r.length:=by
 rw[J6];split
 ·exact Wc _
 ·unfold jL;split
  ·exact Wc _
  ·split
   ·exact Wc _
   ·show (r.drop _).length<=_;rw[W1];omega
end
section
open CA CB
open Go.RowKit
def Jv:qV:=⟨⟨9,9,9,[⟨1,2,0,[],1,[⟨[100],3⟩,⟨[102],4⟩,⟨[103],5⟩]⟩,⟨3,2,1,[],1,[]⟩,⟨4,1,1,[122],0,[]⟩,⟨5,1,1,[121],0,[]⟩]⟩,[],[]⟩
theorem xY:okW Jv:=by decide
theorem GW:GrD 0 (GV Jv):=zlB xY (by
 intro x hx;have:∀ x∈Jv.fs.xs,x.kind=3->x.data.length<=1000:=by decide
 exact this x hx) (by decide) (by decide)
theorem vv:Fun Tryz.prog G0 31 [] (ZB Jv) 0:=by
 have h1:=ziq (G:=G0) 9 9;have h2:=JO (G:=G0) ⟨9,9,9,[⟨1,2,0,[],1,[]⟩]⟩ ⟨1,2,0,[],1,[⟨[100],3⟩,⟨[102],4⟩,⟨[103],5⟩]⟩ (by decide);have h3:=NH (G:=G0) ⟨9,9,9,[⟨1,2,0,[],1,[⟨[100],3⟩,⟨[102],4⟩,⟨[103],5⟩]⟩]⟩ ⟨3,2,1,[],1,[]⟩ rfl (by decide);have h4:=NH (G:=G0) ⟨9,9,9,[⟨1,2,0,[],1,[⟨[100],3⟩,⟨[102],4⟩,⟨[103],5⟩]⟩,⟨3,2,1,[],1,[]⟩]⟩ ⟨5,1,1,[121],0,[]⟩ rfl (by decide);have h5:=NH (G:=G0) ⟨9,9,9,[⟨1,2,0,[],1,[⟨[100],3⟩,⟨[102],4⟩,⟨[103],5⟩]⟩,⟨3,2,1,[],1,[]⟩,⟨5,1,1,[121],0,[]⟩]⟩ ⟨4,1,1,[122],0,[]⟩ rfl (by decide);have e2:qq ⟨1,2,0,[],1,[⟨[100],3⟩,⟨[102],4⟩,⟨[103],5⟩]⟩ [⟨1,2,0,[],1,[]⟩] = [⟨1,2,0,[],1,[⟨[100],3⟩,⟨[102],4⟩,⟨[103],5⟩]⟩]:=by decide
 have e3:qq ⟨3,2,1,[],1,[]⟩ [⟨1,2,0,[],1,[⟨[100],3⟩,⟨[102],4⟩,⟨[103],5⟩]⟩] = [⟨1,2,0,[],1,[⟨[100],3⟩,⟨[102],4⟩,⟨[103],5⟩]⟩,⟨3,2,1,[],1,[]⟩]:=by decide
 have e4:qq ⟨5,1,1,[121],0,[]⟩ [⟨1,2,0,[],1,[⟨[100],3⟩,⟨[102],4⟩,⟨[103],5⟩]⟩,⟨3,2,1,[],1,[]⟩] = [⟨1,2,0,[],1,[⟨[100],3⟩,⟨[102],4⟩,⟨[103],5⟩]⟩,⟨3,2,1,[],1,[]⟩,⟨5,1,1,[121],0,[]⟩]:=by decide
 have e5:qq ⟨4,1,1,[122],0,[]⟩ [⟨1,2,0,[],1,[⟨[100],3⟩,⟨[102],4⟩,⟨[103],5⟩]⟩,⟨3,2,1,[],1,[]⟩,⟨5,1,1,[121],0,[]⟩]=Jv.fs.xs:=by decide
 simp only[e2]at h2;simp only[e3]at h3;simp only[e4]at h4;simp only[e5]at h5;refine fon Tryz.func31 ?_;dsimp only[Tryz.f31];push_cast;refine cl h1 ?_;push_cast;refine cl h2 ?_;push_cast;refine cl h3 ?_;push_cast;refine cl h4 ?_;push_cast;refine cl h5 ?_;push_cast;exact dn (by push_cast [ze,zd,CLe,zg,Jv])
def tB:List Lz:=[[109,118,58,32,99,97,110,110,111,116,32,115,116,97,116,32,34,120,34,58,32,78,111,32,115,117,99,104,32,102,105,108,101,32,111,114,32,100,105,114,101,99,116,111,114,121]]
def tC:List Lz:=[[109,118,58,32,99,97,110,110,111,116,32,111,118,101,114,119,114,105,116,101,32,100,105,114,101,99,116,111,114,121,32,34,100,34,32,119,105,116,104,32,110,111,110,45,100,105,114,101,99,116,111,114,121,32,34,102,34]]
theorem vt:Fun Tryz.prog GD 9 [] (qQ true) 0:=by
 have q0:Fun Tryz.prog GD 31 [] (ZB Jv) 0:=vv.g0;have q1:Fun Tryz.prog GD 13 [ZB Jv] (GQ (GV Jv)) 0:=(xL Jv (by decide) xY.2.2.2.2.1).g0;have q2:Fun Tryz.prog GD 12 [GQ (GV Jv),.str [47],.agg [.sc (.int .i64 4),.str [],.sl 1 [[.str [102]],[.str [103]]]]] (GQ (yN 4 [47] [] [[102],[103]] (GV Jv))) 0:=Z1 4 [47] [] [[102],[103]] GW (by decide) (by decide) (by decide) (by decide);have q3:Fun Tryz.prog GD 12 [GQ (GV Jv),.str [47],.agg [.sc (.int .i64 4),.str [],.sl 1 [[.str [102]],[.str [120]],[.str [100]]]]] (GQ (yN 4 [47] [] [[102],[120],[100]] (GV Jv))) 0:=Z1 4 [47] [] [[102],[120],[100]] GW (by decide) (by decide) (by decide) (by decide);have q4:Fun Tryz.prog GD 12 [GQ (GV Jv),.str [47],.agg [.sc (.int .i64 4),.str [84],.sl 1 [[.str [102]],[.str [100]]]]] (GQ (yN 4 [47] [84] [[102],[100]] (GV Jv))) 0:=Z1 4 [47] [84] [[102],[100]] GW (by decide) (by decide) (by decide) (by decide);obtain ⟨dA,hA⟩:∃ d,yN 4 [47] [] [[102],[103]] (GV Jv)=d:=⟨_,rfl⟩;obtain ⟨dB,hB⟩:∃ d,yN 4 [47] [] [[102],[120],[100]] (GV Jv)=d:=⟨_,rfl⟩;obtain ⟨dC,hC⟩:∃ d,yN 4 [47] [84] [[102],[100]] (GV Jv)=d:=⟨_,rfl⟩;have p1:dA.ops = [⟨7,1,[47,103],[],[]⟩,⟨6,0,[47,102],[47,103],[]⟩]:=by rw[←hA];kernel_rfl
 have p2:dB.ops = [⟨6,0,[47,102],[47,100,47,102],[]⟩]:=by rw[←hB];kernel_rfl
 have p3:dB.diags=tB:=by rw[←hB];kernel_rfl
 have p4:dC.diags=tC:=by rw[←hC];kernel_rfl
 rw[hA]at q2;rw[hB]at q3;rw[hC]at q4;have q5:Fun Tryz.prog GD 32 [.sl 5 (dA.ops.map opL),.sl 5 [opL ⟨7,1,[47,103],[],[]⟩,opL ⟨6,0,[47,102],[47,103],[]⟩]] (qQ true) 0:=by
  have h:=yB dA.ops [⟨7,1,[47,103],[],[]⟩,⟨6,0,[47,102],[47,103],[]⟩] (by rw[p1];decide);rw[show J7 dA.ops [⟨7,1,[47,103],[],[]⟩,⟨6,0,[47,102],[47,103],[]⟩]=true by rw[p1];rfl]at h;exact h.g0
 have q6:Fun Tryz.prog GD 32 [.sl 5 (dB.ops.map opL),.sl 5 [opL ⟨6,0,[47,102],[47,100,47,102],[]⟩]] (qQ true) 0:=by
  have h:=yB dB.ops [⟨6,0,[47,102],[47,100,47,102],[]⟩] (by rw[p2];decide);rw[show J7 dB.ops [⟨6,0,[47,102],[47,100,47,102],[]⟩]=true by rw[p2];rfl]at h;exact h.g0
 have q7:Fun Tryz.prog GD 16 [.sl 1 (zE dB.diags),.sl 1 (zE tB)] (qQ true) 0:=by
  have h:=N6 dB.diags tB (by rw[p3];decide);rw[Wm p3]at h;exact h.g0
 have q8:Fun Tryz.prog GD 16 [.sl 1 (zE dC.diags),.sl 1 (zE tC)] (qQ true) 0:=by
  have h:=N6 dC.diags tC (by rw[p4];decide);rw[Wm p4]at h;exact h.g0
 clear hA hB hC p1 p2 p3 p4;refine fon Tryz.func9 ?_;dsimp only[Tryz.f9];push_cast;refine cl q0 ?_;push_cast;refine cl q1 ?_;push_cast;refine cl q2 ?_;push_cast;refine cl q1 ?_;push_cast;refine cl q3 ?_;push_cast;refine cl q1 ?_;push_cast;refine cl q4 ?_;push_cast;refine cl q5 ?_;push_cast;refine cl q6 ?_;push_cast;refine cl q7 ?_;push_cast;refine cl q8 ?_;push_cast;exact dn
end
section
open CA CB
open Go.RowKit
theorem zjE (h:(J6 (jn 4 :: l)).2 = []):0<(J6 (jn 4 :: l)).1.operands.length:=by
 have e:J6 (jn 4 :: l)=jL 4 (jn 4) (qA (X0 4) Yn [] 0 l) l:=rfl;rw[e]at h ⊢;unfold jL at h ⊢;generalize qA (X0 4) Yn [] 0 l=q at *;by_cases a:q.2.2≠[]
 ·rw[if_pos a]at h;have h:jn 4++[58,32,105,110,118,97,108,105,100,32,111,112,116,105,111,110,32]++QuotePlain.quoteL q.2.2 = []:=h;simp at h
 rw[if_neg a]at h ⊢;by_cases c:jU 4 (YF 4 q.1 58) (l.drop q.2.1)≠[]
 ·rw[if_pos c]at h;have h:jn 4++[58,32]++jU 4 (YF 4 q.1 58) (l.drop q.2.1) = []:=h;simp at h
 rw[if_neg c];show 0<(l.drop q.2.1).length;refine WB.2 fun z=>c ?_;rw[z];simp[jU]
structure zsW (w:qV) (b:Lz) (l:List Lz) (c:zpG) (s:Lz):Prop where
 g:GrD 0 (GV w)
 b:b.length<=1000
 o:c.opts.length<=1000
 n:c.operands.length<=6
 p:∀ x∈c.operands,x.length<=1000
 ne:s = []->0<c.operands.length
theorem zsW.of {w:qV} (h:YK w b l):zsW w b l (J6 (jn 4 :: l)).1 (J6 (jn 4 :: l)).2:=by
 obtain ⟨p1,p2,p3⟩:=uo (jn 4 :: l);obtain ⟨d1,d2⟩:=zjk h;have h6:=h.2.2.2.2.2.2;have ht:=zdN (jn 4) l;refine ⟨zlB h.2.1 d1 (by have:=h.2.2.1;omega) (by have:=h.2.2.2.1;omega),d2,by omega,by omega,fun x hx=>?_,zjE⟩;rcases WK.1 (p3 x hx) with rfl | hx
 ·decide
 ·exact Gb h x hx
end
section
open CA CB
open Go.RowKit
theorem zlU {b o:Lz}:∀ (l:List (Lz×Lz)) {N:Nat} {d:zW},MvC N d->N+2*l.length<=2990->MvC (N+2*l.length) (zae b o l d)
 | [],N,d,h,_=>h
 | p :: r,N,d,h,hN=>by
  rw[Wh]at hN ⊢;have:=zlU (b:=b) (o:=o) r (Gl h (by omega) b o p.1 p.2).2.1 (by omega);rw[show N+2*(r.length+1)=N+2+2*r.length by omega];exact this
theorem zfL (f:FsV) (k w:Int) (a b:Lz) (e:Int) (ha:a.length<=3000) (hb:b.length<=3000) :
  YJ Tryz.prog G0 43 [.agg (zc5 f (.sc (.slice none 0 0))),.sc (.int .i64 k),.sc (.int .i64 w),.str a,.str b,.sc (.int .i64 e)] [] 0 (fun r bx n=>n=1/\r = .agg (zc5 f (.own 0 9 1 (zE [Jl k w a b e])))/\bx = [Nn,Nn]):=by
 have ht:=xS k w a b e ha hb;generalize Jl k w a b e=x at ht ⊢;refine foX (fun i=>if i=1 then [false,false,false,false,false,false,false,false,false,true,false,true] else []) Tryz.func43 ?_;dsimp only[Tryz.f43];push_cast
 repeat refine an ?_
 refine cl ht ?_;push_cast
 repeat refine an ?_
 exact ⟨_,[Nn,Nn],1,⟨⟨rfl,rfl,rfl⟩,Wc _⟩,[.inl 1],rfl,rfl,by push_cast [ze,zd,CLe,zg],by push_cast [ze,zd,CLe,zg]⟩
theorem zg2 {l:List Lz}:(J6 (jn 4 :: l)).1.kind=4∨(J6 (jn 4 :: l)).2≠[]:=by
 have e:J6 (jn 4 :: l)=jL 4 (jn 4) (qA (X0 4) Yn [] 0 l) l:=rfl;rw[e];unfold jL;generalize qA (X0 4) Yn [] 0 l=q at *;by_cases a:q.2.2≠[]
 ·rw[if_pos a]
  right
  show jn 4++[58,32,105,110,118,97,108,105,100,32,111,112,116,105,111,110,32]++QuotePlain.quoteL q.2.2≠[];simp
 rw[if_neg a];by_cases c:jU 4 (YF 4 q.1 58) (l.drop q.2.1)≠[]
 ·rw[if_pos c]
  right
  show jn 4++[58,32]++jU 4 (YF 4 q.1 58) (l.drop q.2.1)≠[];simp
 rw[if_neg c];exact .inl rfl
theorem zfp (b o:Lz) (ops:List Lz) {d:zW} (h:MvC 0 d) (h0:d.diags = []) (hN:ops.length<=1000) (hb:b.length<=1000) (ho:o.length<=1000) (hp:∀ x∈ops,x.length<=1000) (h1:0<ops.length):Fun Tryz.prog G0 14 [.agg (fsC d.w.fs),.str b,zut 4 o ops] (.agg (zc5 (yN 4 b o ops d).w.fs (.own 0 9 1 (zE (yN 4 b o ops d).diags)))) 1:=by
 have hll:(zE ops).length=ops.length:=We ..;have hS:=(h.g.s (by omega)).ws.fs;have hpl:=va d.w.fs h.g.b.wi.fs hS b (by omega) 4 o ho ops hN hp;have e:yN 4 b o ops d=match qg d.w.fs b 4 o ops with | none=>Yj d (Jl 4 10 (ops.getLastD []) [] 0) | some ps=>zae b o (ops.zip ps) d:=rfl
 cases hP:qg d.w.fs b 4 o ops with
 | none =>
  rw[hP]at hpl e;simp only[Oe,Am]at hpl;have hlg:=JP h1;have hla:(zE ops)[ops.length-1]?=some [.str (ops.getLastD [])]:=by rw[Ws,hlg];rfl
  have hlx:((ops.length:Int)-1).toNat=ops.length-1:=by omega
  have hl2:(ops.getLastD []).length<=1000:=hp _ (Wg hlg);have ht:=zfL d.w.fs 4 10 (ops.getLastD []) [] 0 (by omega) (Wc _);rw[e];refine fof (fun i=>if i=4 then [false,false,false,false,false,false,false,false,false,true,true] else if i=8 then qS 18 19 else if i=11 then [false,false,false,false,false,false,false,false,false,false,false,false,true,true] else []) Tryz.func14 ?_;dsimp only[Tryz.f14];push_cast;refine cl hpl ?_;push_cast [hll,hla,hlx]
  repeat refine an ?_
  refine ju [] [] ht rfl (by decide) (by decide) (by simp) (by push_cast) (by push_cast) (fun r bx' m hp=>?_);obtain ⟨rfl,rfl,rfl⟩:=hp;push_cast;exact ⟨[.inl 0],rfl,rfl,by push_cast [ze,zd,CLe,zg,Yj,h0]⟩
 | some ps =>
  rw[hP]at hpl e;simp only[WO,OL]at hpl;obtain ⟨p1,p2⟩:=Ge hP hp;have hpsl:(zE ps).length=ps.length:=We ..;have hz:(ops.zip ps).length=ps.length:=by rw[BS];omega
  have e:yN 4 b o ops d=zae b o (ops.zip ps) d:=e;rw[e];refine fof (fun i=>if i=4 then [false,false,false,false,false,false,false,false,false,true,true] else if i=8 then qS 18 19 else if i=11 then [false,false,false,false,false,false,false,false,false,false,false,false,true,true] else []) Tryz.func14 ?_;dsimp only[Tryz.f14];push_cast;refine cl hpl ?_;push_cast;refine loop (fun q:Nat×zW=>⟨[(1,.str b),(3,.ptr 0 0),(5,.ptr 1 0),(6,.ptr 2 0),(7,.ptr 3 0),(8,.sl 1 (zE ps)),(10,.sc (.int .i64 q.1))],[[.any,.any,.any,.any],zh6 4 o ops,Nn,zc5 q.2.w.fs (.own 0 9 1 (zE q.2.diags))],1,0⟩) (fun q=>q.1<=ps.length/\q.2=zae b o ((ops.zip ps).take q.1) d/\MvC (2*q.1) q.2) (fun q=>ps.length-q.1) (0,d) ⟨Wc _,rfl,h⟩ ?_ ?_
  ·exact wks [.inr (9,1)] (h5:=by push_cast [ze,zd,CLe,zg,h0,zE,Wv])
  rintro ⟨i,D⟩ ⟨i1,i2,i3⟩;dsimp only at i1 i2 i3;by_cases hi:i<ps.length
  case neg =>
   have hil:i=ps.length:=by omega
   have hi':=Wu (show ¬(i:Int)<ps.length by omega);rw[hil,←hz,Of]at i2;push_cast [hi',hpsl];rw[←i2];exact ⟨[.inl 0],rfl,rfl,by push_cast [ze,zd,CLe,zg]⟩
  have hi':=eq_true (show (i:Int)<ps.length by omega);have hio:i<ops.length:=by omega
  have hgp:(zE ps)[i]?=some [.str ps[i]]:=by simp[zE,hi]
  have hgo:(zE ops)[i]?=some [.str ops[i]]:=by simp[zE,hio]
  have hlp:=p2 _ (Wx hi);have hlo:=hp _ (Wx hio);have hst:XL b o D ops[i] ps[i]=zae b o ((ops.zip ps).take (i+1)) d:=by
   have hzi:i<(ops.zip ps).length:=by omega
   rw[OX hzi];unfold zae;rw[BE];show XL b o D ops[i] ps[i]=XL b o (zae b o ((ops.zip ps).take i) d) (ops.zip ps)[i].1 (ops.zip ps)[i].2;rw[←i2,List.getElem_zip]
  obtain ⟨m1,m2,m3⟩:=Gl i3 (by omega) b o ops[i] ps[i];have hone:=zkG i3 (by omega) b hb 4 o ho ops ops[i] ps[i] (by omega) (by omega);have hdg:=i3.g.b.diags;generalize ops[i]=u at *;generalize ps[i]=v at *;generalize mvR b o D.w.fs u v=R at *;obtain ⟨rf,rw',re⟩:=R;dsimp only at m1 m3 hone;have htd:=zk6 rf D.diags (by omega) 4 rw' u v re (by omega) (by omega);generalize XL b o D u v=D2 at *;have hD2:MvC (2*(i+1)) D2:=by rw[show 2*(i+1)=2*i+2 by omega];exact m2
  rcases OB (rw'=0) with c | c
  ·rw[if_neg (fun q=>q (BJ c))]at m3;push_cast [hi',hgp,hgo,hll,hpsl,Ol]
   repeat refine an ?_
   refine cl hone ?_;push_cast [hi',hgp,hgo,hll,hpsl,Ol,c]
   repeat refine an ?_
   exact ⟨(i+1,D2),⟨by dsimp only;omega,hst,hD2⟩,by dsimp only;omega,wks [.inl 0] (h5:=by push_cast [ze,zd,CLe,zg,m1,m3])⟩
  ·rw[if_pos (Bh c)]at m3;push_cast [hi',hgp,hgo,hll,hpsl,Ol]
   repeat refine an ?_
   refine cl hone ?_;push_cast [hi',hgp,hgo,hll,hpsl,Ol,c]
   repeat refine an ?_
   refine ju [] [0] htd rfl (by decide) (by decide) (by simp) (by push_cast) (by push_cast) (fun r bx' m hp=>?_);obtain ⟨rfl,rfl,rfl⟩:=hp;push_cast
   repeat refine an ?_
   exact ⟨(i+1,D2),⟨by dsimp only;omega,hst,hD2⟩,by dsimp only;omega,wks [.inl 1] (h5:=by push_cast [ze,zd,CLe,zg,m1,m3])⟩
theorem zab (w:qV) (b:Lz) (l:List Lz) (hb:b.length<=2000000):Fun Tryz.prog GD 3 [ZB w,.str b,.sl 1 (zE l)] (qQ true) 0:=by
 have ha:=vt;have hf:Fun Tryz.prog GD 10 _ _ 0:=(zdP w b l hb).g0;by_cases h:YK w b l
 case neg =>
  rw[Wk h]at hf;refine fof (fun i=>if i=6 then qS 5 6 else []) Tryz.func3 ?_;dsimp only[Tryz.f3];push_cast;refine cl ha ?_;push_cast;refine cl hf ?_;push_cast;refine cl ha ?_;push_cast;exact dn
 rw[Wm h]at hf;have hc:Fun Tryz.prog GD 11 _ _ 1:=(zjC 4 l (by decide) (by have:=h.2.2.2.2.2.2;omega) (Gb h)).g0;have hF:=zsW.of h;have hk:=@zg2 l;generalize J6 (jn 4 :: l)=rc at hc hF hk;obtain ⟨⟨ck,co,cz⟩,s⟩:=rc;dsimp only at hF hc hk;have hcn:cz.length<=6:=hF.n;by_cases hs:s = []
 case neg =>
  rw[Wk hs]at hc;refine fof (fun i=>if i=6 then qS 5 6 else []) Tryz.func3 ?_;dsimp only[Tryz.f3];push_cast;refine cl ha ?_;push_cast;refine cl hf ?_;push_cast;refine cl hc ?_;push_cast;exact dn
 rw[Wm hs]at hc;obtain rfl:ck=4:=hk.resolve_right (fun q=>q hs);have hC:MvC 0 (GV w):=⟨hF.g,(Zy h.2.1.2.2.2.2.1).2,by have:=h.2.2.2.1;show Jd w.kept<=_;omega,⟨fun q=>absurd q (show ¬(0:Int)=1 by decide),fun q=>absurd q (Nat.lt_irrefl 0)⟩⟩;have q1:Fun Tryz.prog GD 13 [ZB w] (GQ (GV w)) 0:=(xL w (by have:=(zhC h.2.1).klen;omega) h.2.1.2.2.2.2.1).g0;have q2:=Z1 4 b co cz hF.g (by omega) hF.b hF.p (hF.ne hs);have q3:Fun Tryz.prog GD 14 _ _ 1:=(zfp b co cz hC rfl (by omega) hF.b hF.o hF.p (hF.ne hs)).g0;have g1:MvC 14 (yN 4 b co cz (GV w)):=by
  unfold yN;split
  ·exact (hC.tell _).mono (by omega)
  ·exact (zlU _ hC (by rw[BS];omega)).mono (by rw[BS];omega)
 generalize yN 4 b co cz (GV w)=P at q2 q3 g1;have hst:=g1.stat;have g2:=(g1.g.s (by omega)).ws.fs;have q4:=zef (G:=GD) P.w.fs P.w.fs (by have:=g2.len;omega) (fun z hz=>by have:=(g2.node z hz).1;omega);rw[Wm rfl]at q4;have q5:Fun Tryz.prog GD 16 _ _ 0:=(N6 P.diags P.diags (by have:=g1.g.b.diags;omega)).g0;rw[Wm rfl]at q5;have hdl:(zE P.diags).length=P.diags.length:=We ..;by_cases hz:P.status=1
 ·have z1:=eq_true hz;have z2:=eq_true (show (0:Int)<P.diags.length by have:=hst.1 hz;omega);refine fof (fun i=>if i=6 then qS 5 6 else []) Tryz.func3 ?_;dsimp only[Tryz.f3];push_cast;refine cl ha ?_;push_cast;refine cl hf ?_;push_cast;refine cl hc ?_;push_cast;refine cl q1 ?_;push_cast;refine cl q2 ?_;push_cast;refine cl q3 ?_;push_cast;refine cl q4 ?_;push_cast;refine cl q5 ?_;push_cast [hdl,z1,z2];exact dn
 ·have z1:=Wu hz;have z2:=Wu (show ¬(0:Int)<P.diags.length by
   intro q;exact hz (hst.2 (by omega)))
  refine fof (fun i=>if i=6 then qS 5 6 else []) Tryz.func3 ?_;dsimp only[Tryz.f3];push_cast;refine cl ha ?_;push_cast;refine cl hf ?_;push_cast;refine cl hc ?_;push_cast;refine cl q1 ?_;push_cast;refine cl q2 ?_;push_cast;refine cl q3 ?_;push_cast;refine cl q4 ?_;push_cast;refine cl q5 ?_;push_cast [hdl,z1,z2];exact dn
end
end Go.Proofs.YtnpdbhbmakdklaaGreatDoor.Vcg
