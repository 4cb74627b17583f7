/- What the proof of CpsTree leans on, part 5. No condition beyond what each theorem states. -/
import Derived.Test.YtnpdbhbmakdklaaGreatDoorCpsTreeKd
import Derived.WalkKit
import Derived.Lib.Hide
import Derived.Lib.Join
import Derived.Deep.Draws
import Derived.Lib.SlBytesRow
import Derived.StillTailTactics
import Derived.Test.YtnpdbhbmakdklaaGreatDoorProg
import Derived.WalkLawsBesides
import Derived.WalkSpells
import Derived.Shelf.Strings.Builder1
import Derived.Shelf.Strings.BuilderF
import Derived.Shelf.Strings.SlTrimAscii
import Derived.Sort.Walk0
import Derived.Lib.IndexLaws
set_option linter.unusedVariables false
set_option linter.unusedSimpArgs false
set_option linter.unusedSectionVars false
set_option maxRecDepth 100000
set_option maxHeartbeats 4000000
namespace Go.Proofs.YtnpdbhbmakdklaaGreatDoor.Vcg
variable {k N:Nat} {w:qH} {f:FsV} {args:List C} {n p:Int} {d:zF} {ns:List Lz} {l:List (Int×Int)} {xs:List zl}
section
open CA CB
open Go.RowKit
def zhL (w:qH):Prop:=(∀ k∈w.kept,k.data.length<=5000)/\HS w.fs.xs/\HS w.pool/\w.kept.length<=40
instance (w:qH):Decidable (zhL w):=by unfold zhL;infer_instance
def X9 (w:qH) (k:zV):Prop:=k.slot<=1073741824/\(zk k.ino w.fs.xs=true∨zk k.ino w.pool=true)/\(k.content=true->(if zk k.ino w.pool=true then zf k.ino w.pool else zf k.ino w.fs.xs).kind=1)/\(k.content=false->k.data = [])
instance (w:qH) (k:zV):Decidable (X9 w k):=by unfold X9;infer_instance
def Qm (ks:List zV):Prop:=qU Jq zV.slot ks/\∀ k∈ks,1<=k.slot
instance (ks:List zV):Decidable (Qm ks):=by unfold Qm qU;infer_instance
def Qa (w:qH):Prop:=JO w.fs=0/\z6 w.pool/\(∀ x∈w.pool,qO w x)/\Qm w.kept/\∀ k∈w.kept,X9 w k
instance (w:qH):Decidable (Qa w):=by unfold Qa;infer_instance
def okW (w:qH):Prop:=zhL w/\Qa w
instance (w:qH):Decidable (okW w):=by unfold okW;infer_instance
theorem UX {ks:List zV} (h:Qm ks):0<=Jr ks/\∀ k∈ks,k.slot<=Jr ks:=by
 rcases Ba ks with rfl | ⟨l,b,rfl⟩
 ·exact ⟨O7 0,fun k hk=>by cases hk⟩
 ·rw[AV]at h ⊢;have hl:Jr (l++[b])=b.slot:=by unfold Jr;rw[List.getLast?_append];rfl
  rw[hl];have hb:=h.2 b (by simp);refine ⟨by omega,fun k hk=>?_⟩;rcases WB.1 hk with hk | hk
  ·have:=(A0.1 h.1).2.2 k hk b (by simp);have:k.slot<b.slot:=WP this;omega
  ·rw[WT.1 hk];exact O7 _
theorem He {ks:List zV} {k:zV}:Qm (ks++[k])↔Qm ks/\Jr ks<k.slot:=by
 constructor
 ·rintro ⟨h1,h2⟩;have h0:Qm ks:=⟨(A0.1 h1).1,fun x hx=>h2 x (OB _ hx)⟩;refine ⟨h0,?_⟩;rcases Ba ks with rfl | ⟨l,b,rfl⟩
  ·have:=h2 k (by simp);show (0:Int)<k.slot;omega
  ·rw[AV]at h1 ⊢;have hl:Jr (l++[b])=b.slot:=by unfold Jr;rw[List.getLast?_append];rfl
   rw[hl];exact WP ((A0.1 h1).2.2 b (by simp) k (by simp))
 ·rintro ⟨h,hk⟩;obtain ⟨q1,q2⟩:=UX h;refine ⟨A0.2 ⟨h.1,Bv _ _,fun a ha b hb=>?_⟩,fun x hx=>?_⟩
  ·rw[WT.1 hb];have:=q2 a ha;exact Wl (show a.slot<k.slot by omega)
  ·rcases WB.1 hx with hx | hx
   ·exact h.2 x hx
   ·rw[WT.1 hx];omega
theorem H3 (w:qH):Fun Tryz.prog G0 61 [Xm w] (jb (decide (zhL w))) 0:=by
 have hkl:(zJ w.kept).length=w.kept.length:=We ..;have hf:=za0 (G:=G0) w.fs;have hq:=kF (G:=G0) w;have hp:=za0 (G:=G0) ⟨0,0,0,w.pool⟩;simp only at hp;have fin:(∀ k∈w.kept.take 100,k.data.length<=5000)->(zhL w↔HS w.fs.xs/\HS w.pool/\w.kept.length<=40):=fun h=>by
  refine ⟨fun q=>q.2,fun q=>⟨?_,q⟩⟩;rw[Wg (by have:=q.2.2;omega)]at h;exact h
 refine fon Tryz.func61 ?_;dsimp only[Tryz.f61];push_cast;refine loop (fun i:Nat=>⟨[(1,.ptr 0 0),(3,.sc (.int .i64 i))],[N8 w],0,0⟩) (fun i=>i<=w.kept.length/\i<=100/\∀ k∈w.kept.take i,k.data.length<=5000) (fun i=>w.kept.length-i) 0 ⟨Wd _,Wd _,fun x hx=>by simp at hx⟩ ?_ ?_
 ·exact wk
 ·rintro i ⟨h1,h2,h3⟩;have last:(∀ k∈w.kept.take 100,k.data.length<=5000)->decide (zhL w)=(decide (HS w.fs.xs)&&(decide (HS w.pool)&&decide (w.kept.length<=40))):=fun h=>by
   have:=fin h;by_cases a:HS w.fs.xs<;>by_cases b:HS w.pool<;>by_cases c:w.kept.length<=40<;>simp[this,a,b,c]
  by_cases h:i<w.kept.length
  ·by_cases h100:i<100
   ·have g:=J2 w.kept i h;have h100':((i:Int)<100)=True:=eq_true (by omega);by_cases hd:5000<(w.kept[i].data.length:Int)
    ·have hn:¬zhL w:=fun q=>by have:=q.1 _ (Wz h);omega
     push_cast [hkl,h,h100',g,hd]
     repeat refine an ?_
     exact dn (by push_cast [ze,zd,CLe,zh,hn])
    ·push_cast [hkl,h,h100',g,hd]
     repeat refine an ?_
     exact ⟨i+1,⟨h,h100,qp h h3 (by omega)⟩,by omega,wk⟩
   ·have h100':((i:Int)<100)=False:=WG (by omega);have e:i=100:=by omega
    have hl:=last (by rw[←e];exact h3);have h40:((w.kept.length:Int)<=40)=False:=WG (by omega);rw[Wi (show ¬w.kept.length<=40 by omega)]at hl;rw[hl];by_cases a:HS w.fs.xs
    ·by_cases b:HS w.pool
     ·push_cast [hkl,h,h100'];refine cl hf ?_;push_cast [Wl a];refine cl hq ?_;push_cast;refine cl hp ?_;push_cast [Wl b,hkl,h40];exact dn (by push_cast [ze,zd,CLe,zh,a,b,W6])
     ·push_cast [hkl,h,h100'];refine cl hf ?_;push_cast [Wl a];refine cl hq ?_;push_cast;refine cl hp ?_;push_cast [Wi b];exact dn (by push_cast [ze,zd,CLe,zh,a,b,W6])
    ·push_cast [hkl,h,h100'];refine cl hf ?_;push_cast [Wi a];exact dn (by push_cast [ze,zd,CLe,zh,a,W6])
  ·rw[Wg (by omega)]at h3;have hl:=last fun k hk=>h3 k (Ww hk);rw[hl];by_cases a:HS w.fs.xs
   ·by_cases b:HS w.pool
    ·by_cases c:w.kept.length<=40
     ·have h40:((w.kept.length:Int)<=40)=True:=eq_true (by omega);push_cast [hkl,h];refine cl hf ?_;push_cast [Wl a];refine cl hq ?_;push_cast;refine cl hp ?_;push_cast [Wl b,hkl,h40];exact dn (by push_cast [ze,zd,CLe,zh,a,b,c,W6])
     ·have h40:((w.kept.length:Int)<=40)=False:=WG (by omega);push_cast [hkl,h];refine cl hf ?_;push_cast [Wl a];refine cl hq ?_;push_cast;refine cl hp ?_;push_cast [Wl b,hkl,h40];exact dn (by push_cast [ze,zd,CLe,zh,a,b,c,W6])
    ·push_cast [hkl,h];refine cl hf ?_;push_cast [Wl a];refine cl hq ?_;push_cast;refine cl hp ?_;push_cast [Wi b];exact dn (by push_cast [ze,zd,CLe,zh,a,b,W6])
   ·push_cast [hkl,h];refine cl hf ?_;push_cast [Wi a];exact dn (by push_cast [ze,zd,CLe,zh,a,W6])
structure ztj (w:qH):Prop where
 fs:FsS w.fs
 kept:w.kept.length<=10000
 pool:FsS ⟨0,0,0,w.pool⟩
theorem ug (w:qH) (hw:ztj w):Fun Tryz.prog G0 62 [Xm w] (jb (decide (Qa w))) 0:=by
 have hfl:=hw.fs.len;have hkk:=hw.kept;have hpp:w.pool.length<=10000:=hw.pool.len;have hkl:(zJ w.kept).length=w.kept.length:=We ..;have hpl:(zt w.pool).length=w.pool.length:=We ..;have hch:=ze8 w.fs hw.fs;have hq:=kF (G:=G0) w;have hri:=UW (G:=G0) ⟨0,0,0,w.pool⟩ (by simp only;omega);by_cases c1:JO w.fs=0
 case neg =>
  have hn:¬Qa w:=fun h=>c1 h.1;refine fof (fun i=>if i=14 then JJ 8 9 else []) Tryz.func62 ?_;dsimp only[Tryz.f62];push_cast;refine cl hch ?_;push_cast [c1];exact dn (by push_cast [ze,zd,CLe,zh,hn])
 by_cases c2:z6 w.pool
 case neg =>
  have hn:¬Qa w:=fun h=>c2 h.2.1;rw[Wi c2]at hri;refine fof (fun i=>if i=14 then JJ 8 9 else []) Tryz.func62 ?_;dsimp only[Tryz.f62];push_cast;refine cl hch ?_;push_cast [c1];refine cl hq ?_;push_cast;refine cl hri ?_;push_cast;exact dn (by push_cast [ze,zd,CLe,zh,hn])
 rw[Wl c2]at hri;refine fof (fun i=>if i=14 then JJ 8 9 else []) Tryz.func62 ?_;dsimp only[Tryz.f62];push_cast;refine cl hch ?_;push_cast [c1];refine cl hq ?_;push_cast;refine cl hri ?_;push_cast;refine loop (fun i:Nat=>⟨[(1,.ptr 0 0),(3,.sc (.int .i64 i))],[N8 w],0,0⟩) (fun i=>i<=w.pool.length/\∀ x∈w.pool.take i,qO w x) (fun i=>w.pool.length-i) 0 ⟨Wd _,fun x hx=>by simp at hx⟩ ?_ ?_
 ·exact wk
 rintro i ⟨h1,h2⟩;by_cases h:i<w.pool.length
 ·have g:=ju w.pool i h;have hn:=hw.pool.node _ (Wz h);have hpo:=zcJ w w.pool[i] (by omega) (by omega) (by omega) (by omega);by_cases c3:qO w w.pool[i]
  ·rw[Wl c3]at hpo;push_cast [hpl,h,g]
   repeat refine an ?_
   refine cl hpo ?_;push_cast
   repeat refine an ?_
   exact ⟨i+1,⟨h,qp h h2 c3⟩,by omega,wk⟩
  ·rw[Wi c3]at hpo;have hn:¬Qa w:=fun q=>c3 (q.2.2.1 _ (Wz h));push_cast [hpl,h,g]
   repeat refine an ?_
   refine cl hpo ?_;push_cast;exact dn (by push_cast [ze,zd,CLe,zh,hn])
 rw[Wg (by omega)]at h2;have hs0:Qm []:=⟨List.Pairwise.nil,fun k hk=>by cases hk⟩;have hl0:Jr []=0:=rfl;push_cast [hpl,h];clear hri hq hch;refine loop (fun i:Nat=>⟨[(1,.ptr 0 0),(4,.sc (.int .i64 (Jr (w.kept.take i)))),(5,.sc (.int .i64 i))],[N8 w],0,0⟩) (fun i=>i<=w.kept.length/\Qm (w.kept.take i)/\∀ k∈w.kept.take i,X9 w k) (fun i=>w.kept.length-i) 0 ⟨Wd _,by rw[Ow];exact hs0,fun x hx=>by simp at hx⟩ ?_ ?_
 ·exact wk (by push_cast [ze,zd,CLe,zh,Ow,hl0])
 rintro i ⟨i1,i2,i3⟩;by_cases hi:i<w.kept.length
 case neg =>
  rw[Wg (by omega)]at i2 i3;have hn:Qa w:=⟨c1,c2,h2,i2,i3⟩;push_cast [hkl,hi];exact dn (by push_cast [ze,zd,CLe,zh,hn])
 have g:=J2 w.kept i hi;have hlt:=U6 hi;have hst:w.kept.take (i+1)=w.kept.take i++[w.kept[i]]:=by rw[WZ,Wa hi];rfl
 have hbad1:¬Jr (w.kept.take i)<w.kept[i].slot->¬Qa w:=fun hn q=>hn (He.1 (by
  rw[←hst];exact ⟨q.2.2.2.1.1.sublist (List.take_sublist _ _),fun k hk=>q.2.2.2.1.2 k (Ww hk)⟩)).2
 have hbad2:¬X9 w w.kept[i]->¬Qa w:=fun hn q=>hn (q.2.2.2.2 _ (Wz hi));have hgood:Jr (w.kept.take i)<w.kept[i].slot->Qm (w.kept.take (i+1)):=fun q=>by rw[hst];exact He.2 ⟨i2,q⟩
 have hgood2:X9 w w.kept[i]->∀ k∈w.kept.take (i+1),X9 w k:=fun q=>qp hi i3 q;have hg1:=Jt (G:=G0) w.fs w.kept[i].ino (by omega);have hq:=kF (G:=G0) w;have hg2:=Jt (G:=G0) ⟨0,0,0,w.pool⟩ w.kept[i].ino (by simp only;omega);simp only at hg2;generalize w.kept[i]=k at g hlt hbad1 hbad2 hgood hgood2 hg1 hg2;generalize Jr (w.kept.take i)=la at hbad1 hgood;clear hst i2 i3;by_cases d1:k.slot<=la
 ·have hn:=hbad1 (by omega);push_cast [hkl,hi,g]
  repeat refine an ?_
  refine cl hg1 ?_;push_cast;refine cl hq ?_;push_cast;refine cl hg2 ?_;push_cast [d1];exact dn (by push_cast [ze,zd,CLe,zh,hn])
 have hgd:=hgood (by omega);by_cases d2:1073741824<k.slot
 ·have hn:=hbad2 fun q=>by have:=q.1;omega
  push_cast [hkl,hi,g]
  repeat refine an ?_
  refine cl hg1 ?_;push_cast;refine cl hq ?_;push_cast;refine cl hg2 ?_;push_cast [d1,d2];exact dn (by push_cast [ze,zd,CLe,zh,hn])
 cases e2:zk k.ino w.pool with
 | true =>
  rw[e2]at hg2;by_cases d4:k.content=true
  ·by_cases d5:(zf k.ino w.pool).kind=1
   ·have hok:X9 w k:=⟨by omega,.inr e2,fun _=>by rw[if_pos e2];exact d5,fun q=>by rw[d4]at q;cases q⟩;cases e1:zk k.ino w.fs.xs <;>
    ·rw[e1]at hg1;push_cast [hkl,hi,g]
     repeat refine an ?_
     refine cl hg1 ?_;push_cast;refine cl hq ?_;push_cast;refine cl hg2 ?_;push_cast [d1,d2,d4,d5]
     repeat refine an ?_
     exact ⟨i+1,⟨hi,hgd,hgood2 hok⟩,by omega,wk (by push_cast [ze,zd,CLe,zh,hlt])⟩
   ·have hn:=hbad2 fun q=>d5 (by have:=q.2.2.1 d4;rwa [if_pos e2]at this);cases e1:zk k.ino w.fs.xs <;>
    ·rw[e1]at hg1;push_cast [hkl,hi,g]
     repeat refine an ?_
     refine cl hg1 ?_;push_cast;refine cl hq ?_;push_cast;refine cl hg2 ?_;push_cast [d1,d2,d4,d5];exact dn (by push_cast [ze,zd,CLe,zh,hn])
  ·have d4:=Oq.2 d4;by_cases d6:k.data = []
   ·have hok:X9 w k:=⟨by omega,.inr e2,fun q=>(by rw[d4]at q;cases q),fun _=>d6⟩;cases e1:zk k.ino w.fs.xs <;>
    ·rw[e1]at hg1;push_cast [hkl,hi,g]
     repeat refine an ?_
     refine cl hg1 ?_;push_cast;refine cl hq ?_;push_cast;refine cl hg2 ?_;push_cast [d1,d2,d4,d6]
     repeat refine an ?_
     exact ⟨i+1,⟨hi,hgd,hgood2 hok⟩,by omega,wk (by push_cast [ze,zd,CLe,zh,hlt])⟩
   ·have hn:=hbad2 fun q=>d6 (q.2.2.2 d4);cases e1:zk k.ino w.fs.xs <;>
    ·rw[e1]at hg1;push_cast [hkl,hi,g]
     repeat refine an ?_
     refine cl hg1 ?_;push_cast;refine cl hq ?_;push_cast;refine cl hg2 ?_;push_cast [d1,d2,d4,d6];exact dn (by push_cast [ze,zd,CLe,zh,hn])
 | false =>
  rw[e2]at hg2;cases e1:zk k.ino w.fs.xs with
  | false =>
   rw[e1]at hg1;have hn:=hbad2 fun q=>by
    rcases q.2.1 with q | q
    ·rw[e1]at q;cases q
    ·rw[e2]at q;cases q
   push_cast [hkl,hi,g]
   repeat refine an ?_
   refine cl hg1 ?_;push_cast;refine cl hq ?_;push_cast;refine cl hg2 ?_;push_cast [d1,d2];exact dn (by push_cast [ze,zd,CLe,zh,hn])
  | true =>
   rw[e1]at hg1;have e2':¬zk k.ino w.pool=true:=by rw[e2];decide
   by_cases d4:k.content=true
   ·by_cases d5:(zf k.ino w.fs.xs).kind=1
    ·have hok:X9 w k:=⟨by omega,.inl e1,fun _=>by rw[if_neg e2'];exact d5,fun q=>by rw[d4]at q;cases q⟩;push_cast [hkl,hi,g]
     repeat refine an ?_
     refine cl hg1 ?_;push_cast;refine cl hq ?_;push_cast;refine cl hg2 ?_;push_cast [d1,d2,d4,d5]
     repeat refine an ?_
     exact ⟨i+1,⟨hi,hgd,hgood2 hok⟩,by omega,wk (by push_cast [ze,zd,CLe,zh,hlt])⟩
    ·have hn:=hbad2 fun q=>d5 (by have:=q.2.2.1 d4;rwa [if_neg e2']at this);push_cast [hkl,hi,g]
     repeat refine an ?_
     refine cl hg1 ?_;push_cast;refine cl hq ?_;push_cast;refine cl hg2 ?_;push_cast [d1,d2,d4,d5];exact dn (by push_cast [ze,zd,CLe,zh,hn])
   ·have d4:=Oq.2 d4;by_cases d6:k.data = []
    ·have hok:X9 w k:=⟨by omega,.inl e1,fun q=>(by rw[d4]at q;cases q),fun _=>d6⟩;push_cast [hkl,hi,g]
     repeat refine an ?_
     refine cl hg1 ?_;push_cast;refine cl hq ?_;push_cast;refine cl hg2 ?_;push_cast [d1,d2,d4,d6]
     repeat refine an ?_
     exact ⟨i+1,⟨hi,hgd,hgood2 hok⟩,by omega,wk (by push_cast [ze,zd,CLe,zh,hlt])⟩
    ·have hn:=hbad2 fun q=>d6 (q.2.2.2 d4);push_cast [hkl,hi,g]
     repeat refine an ?_
     refine cl hg1 ?_;push_cast;refine cl hq ?_;push_cast;refine cl hg2 ?_;push_cast [d1,d2,d4,d6];exact dn (by push_cast [ze,zd,CLe,zh,hn])
theorem zhL.m (h:zhL w):ztj w:=⟨h.2.1.fs,by have:=h.2.2.2;omega,HS.fs (f:=⟨0,0,0,w.pool⟩) h.2.2.1⟩
theorem zej (w:qH):Fun Tryz.prog G0 34 [Xm w] (jb (decide (okW w))) 0:=by
 by_cases c:zhL w
 ·have h1:=H3 w;have h2:=ug w c.m;rw[Wl c]at h1;have e:decide (okW w)=decide (Qa w):=by by_cases r:Qa w<;>simp[okW,c,r]
  refine fon Tryz.func34 ?_;dsimp only[Tryz.f34];push_cast;refine cl h1 ?_;push_cast;refine cl h2 ?_;push_cast;exact dn (by push_cast [ze,zd,CLe,zh,e])
 ·have h1:=H3 w;rw[Wi c]at h1;have e:¬okW w:=fun h=>c h.1;refine fon Tryz.func34 ?_;dsimp only[Tryz.f34];push_cast;refine cl h1 ?_;push_cast;exact dn (by push_cast [ze,zd,CLe,zh,e])
end
section
open Go.RowKit
section
variable {G:zq}
theorem zec (n:Nat) (hn:n<=200000) (h0:0<n):Xe Tryz.prog G 172 [.sc (.slice none 0 0),.sc (.int .i64 n)] [] 0 (fun r bx' m=>m=0/\∃ (c:Nat) (B:List C),n<=c/\c<=9223372036854775807/\B.length=c*5/\(B.all C.stayB)=true/\r = .bs 0 0 5 0 c/\bx' = [B]):=by
 have hp:((n:Int)<0)=False:=WG (by omega);have hq:((0:Int)<(n:Int))=True:=eq_true (by omega);refine foX (fun i=>if i=1000000+37 then [true,true] else []) Tryz.func172 ?_;dsimp only[Tryz.f172];push_cast [hp,hq];refine ⟨⟨by omega,by omega⟩,zdP zib zoO zk7 rfl (by decide) rfl (by omega) (by omega) (by omega) (fun c h1 h2=>?_)⟩;push_cast;have hm:(n:Int).toNat=n:=by omega
 rw[hm]at h1;have h2:c<=9223372036854775807:=h2;refine ⟨by omega,by omega,_,[(List.replicate n [C.sc (.int .i64 0),C.sc (.int .i64 0),C.str [],C.str [],C.str []]).flatten++List.replicate ((c-n)*5) C.any],0,⟨⟨rfl,c,_,h1,h2,?_,?_,rfl,rfl⟩,Wd _⟩,[],rfl,rfl,?_,by push_cast [ze,zd,CLe,zh]⟩
 ·simp[hm];omega
 ·simp[OV,OG,C.stayB]
 ·push_cast [ze,zd,CLe,zh];exact zS (by simp[OV,OG,C.stayB])
theorem zcB:Fun Tryz.prog G 116 [.sc (.slice none 0 0),.sc (.int .i64 0)] (.sc (.slice none 0 0)) 0:=by
 refine fon Tryz.func116 ?_;dsimp only[Tryz.f116];push_cast;exact dn
theorem zg6 (n:Nat) (hn:n<=200000) (h0:0<n):Xe Tryz.prog G 116 [.sc (.slice none 0 0),.sc (.int .i64 n)] [] 0 (fun r bx' m=>m=0/\∃ (c:Nat) (B:List C),n<=c/\c<=9223372036854775807/\B.length=c*1/\(B.all C.stayB)=true/\r = .bs 0 0 1 0 c/\bx' = [B]):=by
 have hp:((n:Int)<0)=False:=WG (by omega);have hq:((0:Int)<(n:Int))=True:=eq_true (by omega);refine foX (fun i=>if i=1000000+30 then [true,true] else []) Tryz.func116 ?_;dsimp only[Tryz.f116];push_cast [hp,hq];refine ⟨⟨by omega,by omega⟩,zdP zjP zoO zrB rfl (by decide) rfl (by omega) (by omega) (by omega) (fun c h1 h2=>?_)⟩;push_cast;have hm:(n:Int).toNat=n:=by omega
 rw[hm]at h1;have h2:c<=9223372036854775807:=h2;refine ⟨by omega,by omega,_,[(List.replicate n [C.str []]).flatten++List.replicate ((c-n)*1) C.any],0,⟨⟨rfl,c,_,h1,h2,?_,?_,rfl,rfl⟩,Wd _⟩,[],rfl,rfl,?_,by push_cast [ze,zd,CLe,zh]⟩
 ·simp[hm];omega
 ·simp[OV,OG,C.stayB]
 ·push_cast [ze,zd,CLe,zh];exact zS (by simp[OV,OG,C.stayB])
end
end
section
open CA CB
open Go.RowKit
def szN (a b:Nat):Nat->Nat
 | 0=>0
 | 1=>a
 | _=>a+b
def zqr {α:Type} (a b:List α):Nat->List α
 | 0=>[]
 | 1=>a
 | _=>a++b
structure GS (k c:Nat) (a b:List (List C)) (j:Nat) (X:List C):Prop where
 len:X.length=c*k
 stay:(X.all C.stayB)=true
 cells:X.take (szN a.length b.length j*k)=(zqr a b j).flatten
theorem GS.step {k c:Nat} {a b r:List (List C)} {j:Nat} {X:List C} (h:GS k c a b j X) (hr:zqr a b (j+1)=zqr a b j++r) (hn:szN a.length b.length (j+1)=szN a.length b.length j+r.length) (hk:∀ x∈r,x.length=k) (hs:jA r) (hc:szN a.length b.length (j+1)<=c) :
  GS k c a b (j+1) (spl X (szN a.length b.length j*k) r.flatten):=by
 have hf:=qw hk;obtain ⟨h1,h2,h3⟩:=h;have hle:(szN a.length b.length j+r.length)*k<=c*k:=WM k (by omega);rw[On]at hle;refine ⟨by rw[Zi (by omega)];exact h1,?_,?_⟩
 ·unfold spl;rw[OV,OV,Wo,Wo];rw[Ws]at h2;exact ⟨⟨Ws.2 fun x hx=>h2 x (Ww hx),QY hs⟩,Ws.2 fun x hx=>h2 x (WU hx)⟩
 ·unfold spl;rw[hn,On,hr,A2,←h3,WL,AD];have e1:(X.take (szN a.length b.length j*k)).length=szN a.length b.length j*k:=by rw[W2];omega
  rw[e1,Wg (by omega),OW,AD,←hf,Wg (Wb _)];simp
structure zoI (k c:Nat) (rows:List (List C)) (B:List C):Prop where
 fit:rows.length<=c
 max:c<=9223372036854775807
 len:B.length=c*k
 stay:(B.all C.stayB)=true
 cells:B.take (rows.length*k)=rows.flatten
theorem zoI.ok {c e i:Nat} {rows:List (List C)} {B:List C} {bx:List (List C)} (h:zoI k c rows B) (hb:bx[i]?=some B) (h0:0<rows.length) (hk:∀ r∈rows,r.length=k):zbW [(i,e,k,rows,c)] bx:=
 zaP hb (WH h0 h.fit) h.fit h.max h.len hk h.stay h.cells
section
variable {G:zq}
theorem zfF (a b:List (List C)) (ka:∀ r∈a,r.length=5) (kb:∀ r∈b,r.length=5) (sa:jA a) (sb:jA b) (la:a.length<=90000) (lb:b.length<=90000) (h0:0<a.length+b.length) :
  Xe Tryz.prog G 130 [.sl 1 [[.sl 5 a],[.sl 5 b]]] [] 0 (fun r bx n=>n=0/\∃ c B,zoI 5 c (a++b) B/\r = .bs 0 0 5 (a++b).length c/\bx = [B]):=by
 refine foX (fun i=>if i=1000000+37 then [true,true] else []) Tryz.func130 ?_;dsimp only[Tryz.f130];push_cast;refine loop (fun j:Nat=>⟨[(0,.sl 1 [[.sl 5 a],[.sl 5 b]]),(2,.sc (.slice none 0 0)),(3,.sc (.int .i64 (szN a.length b.length j:Nat))),(9,.sl 1 [[.sl 5 a],[.sl 5 b]]),(10,.sc (.int .i64 2)),(11,.sc (.int .i64 j))],[],0,0⟩) (fun j=>j<=2) (fun j=>2-j) 0 (by decide) ?_ ?_
 ·exact wk (by push_cast [ze,zd,CLe,zh,szN])
 intro j hj;obtain rfl | rfl | rfl:j=0∨j=1∨j=2:=by omega
 ·have hn:(((a.length:Int))<0)=False:=WG (by omega);push_cast [szN,hn];exact ⟨⟨by omega,by omega⟩,1,by decide,by decide,wk (by push_cast [ze,zd,CLe,zh,szN])⟩
 ·have hn:(((a.length:Int)+(b.length:Int))<0)=False:=WG (by omega);push_cast [szN,hn];exact ⟨⟨by omega,by omega⟩,2,by decide,by decide,wk (by push_cast [ze,zd,CLe,zh,szN])⟩
 ·push_cast [szN];refine jU [] [] (zec (G:=G) (a.length+b.length) (by omega) (by omega)) rfl (by decide) (by decide) (by simp) (by push_cast) (by push_cast) (fun r bx' m hp=>?_);obtain ⟨rfl,c,B,h1,h2,h3,h4,rfl,rfl⟩:=hp;have hre:∀ fp fo,C.reL fp fo B=B:=fun fp fo=>zC h4;push_cast [hre];refine loop (fun p:Nat×List C=>⟨[(0,.sl 1 [[.sl 5 a],[.sl 5 b]]),(6,.bs 0 0 5 (szN a.length b.length p.1) c),(25,.sl 1 [[.sl 5 a],[.sl 5 b]]),(26,.sc (.int .i64 2)),(27,.sc (.int .i64 p.1))],[p.2],0,0⟩) (fun p=>p.1<=2/\GS 5 c a b p.1 p.2) (fun p=>2-p.1) (0,B) ⟨Wd _,h3,h4,by simp[szN,zqr]⟩ ?_ ?_
  ·exact Yc.mk [] rfl rfl (Wd _) rfl (by push_cast [ze,zd,CLe,zh,szN]) (by (push_cast [ze,zd,CLe,zh];exact zS h4))
  rintro ⟨j,X⟩ ⟨hj,hX⟩;have hj:j<=2:=hj;obtain rfl | rfl | rfl:j=0∨j=1∨j=2:=by omega
  ·have hs:=hX.step (r:=a) rfl (by simp[szN]) ka sa (by simp[szN];omega);push_cast [szN];refine Vg zib zk7 rfl rfl (by decide) rfl (qw ka) rfl (by rw[hX.len];omega) (Wd _) (by omega) (by omega) (fun hc=>?_) (fun hc=>absurd hc (by omega));push_cast;have hs:GS 5 c a b 1 (spl X 0 a.flatten):=by simpa [szN] using hs
   exact ⟨(1,spl X 0 a.flatten),⟨Nat.le_succ 1,hs⟩,by (simp only;omega),Yc.mk [] rfl rfl (Wd _) rfl (by push_cast [ze,zd,CLe,zh,szN]) (by (push_cast [ze,zd,CLe,zh];exact zS hs.stay))⟩
  ·have hs:=hX.step (r:=b) rfl (by simp[szN]) kb sb (by simp[szN];omega);push_cast [szN];refine Vg zib zk7 rfl rfl (by decide) rfl (qw kb) rfl (by rw[hX.len];omega) (by omega) (by omega) (by omega) (fun hc=>?_) (fun hc=>absurd hc (by omega));push_cast;have hs:GS 5 c a b 2 (spl X (a.length*5) b.flatten):=by simpa [szN] using hs
   exact ⟨(2,spl X (a.length*5) b.flatten),⟨Wb 2,hs⟩,by (simp only;omega),Yc.mk [] rfl rfl (Wd _) rfl (by push_cast [ze,zd,CLe,zh,szN]) (by (push_cast [ze,zd,CLe,zh];exact zS hs.stay))⟩
  ·push_cast [szN];exact ⟨_,[X],0,⟨⟨rfl,c,X,⟨by rw[Wn];omega,h2,hX.len,hX.stay,by rw[Wn];exact hX.cells⟩,rfl,rfl⟩,Wd _⟩,[],rfl,rfl,by (push_cast [ze,zd,CLe,zh];exact zS hX.stay),by push_cast [ze,zd,CLe,zh,Wn]⟩
theorem M8 (a b:List (List C)) (ka:∀ r∈a,r.length=1) (kb:∀ r∈b,r.length=1) (sa:jA a) (sb:jA b) (la:a.length<=90000) (lb:b.length<=90000) (h0:0<a.length+b.length) :
  Xe Tryz.prog G 70 [.sl 1 [[.sl 1 a],[.sl 1 b]]] [] 0 (fun r bx n=>n=0/\∃ c B,zoI 1 c (a++b) B/\r = .bs 0 0 1 (a++b).length c/\bx = [B]):=by
 refine foX (fun i=>if i=1000000+30 then [true,true] else []) Tryz.func70 ?_;dsimp only[Tryz.f70];push_cast;refine loop (fun j:Nat=>⟨[(0,.sl 1 [[.sl 1 a],[.sl 1 b]]),(2,.sc (.slice none 0 0)),(3,.sc (.int .i64 (szN a.length b.length j:Nat))),(9,.sl 1 [[.sl 1 a],[.sl 1 b]]),(10,.sc (.int .i64 2)),(11,.sc (.int .i64 j))],[],0,0⟩) (fun j=>j<=2) (fun j=>2-j) 0 (by decide) ?_ ?_
 ·exact wk (by push_cast [ze,zd,CLe,zh,szN])
 intro j hj;obtain rfl | rfl | rfl:j=0∨j=1∨j=2:=by omega
 ·have hn:(((a.length:Int))<0)=False:=WG (by omega);push_cast [szN,hn];exact ⟨⟨by omega,by omega⟩,1,by decide,by decide,wk (by push_cast [ze,zd,CLe,zh,szN])⟩
 ·have hn:(((a.length:Int)+(b.length:Int))<0)=False:=WG (by omega);push_cast [szN,hn];exact ⟨⟨by omega,by omega⟩,2,by decide,by decide,wk (by push_cast [ze,zd,CLe,zh,szN])⟩
 ·push_cast [szN];refine jU [] [] (zg6 (G:=G) (a.length+b.length) (by omega) (by omega)) rfl (by decide) (by decide) (by simp) (by push_cast) (by push_cast) (fun r bx' m hp=>?_);obtain ⟨rfl,c,B,h1,h2,h3,h4,rfl,rfl⟩:=hp;have hre:∀ fp fo,C.reL fp fo B=B:=fun fp fo=>zC h4;push_cast [hre];refine loop (fun p:Nat×List C=>⟨[(0,.sl 1 [[.sl 1 a],[.sl 1 b]]),(6,.bs 0 0 1 (szN a.length b.length p.1) c),(25,.sl 1 [[.sl 1 a],[.sl 1 b]]),(26,.sc (.int .i64 2)),(27,.sc (.int .i64 p.1))],[p.2],0,0⟩) (fun p=>p.1<=2/\GS 1 c a b p.1 p.2) (fun p=>2-p.1) (0,B) ⟨Wd _,h3,h4,by simp[szN,zqr]⟩ ?_ ?_
  ·exact Yc.mk [] rfl rfl (Wd _) rfl (by push_cast [ze,zd,CLe,zh,szN]) (by (push_cast [ze,zd,CLe,zh];exact zS h4))
  rintro ⟨j,X⟩ ⟨hj,hX⟩;have hj:j<=2:=hj;obtain rfl | rfl | rfl:j=0∨j=1∨j=2:=by omega
  ·have hs:=hX.step (r:=a) rfl (by simp[szN]) ka sa (by simp[szN];omega);push_cast [szN];refine Vg zjP zrB rfl rfl (by decide) rfl (qw ka) rfl (by rw[hX.len];omega) (Wd _) (by omega) (by omega) (fun hc=>?_) (fun hc=>absurd hc (by omega));push_cast;have hs:GS 1 c a b 1 (spl X 0 a.flatten):=by simpa [szN] using hs
   exact ⟨(1,spl X 0 a.flatten),⟨Nat.le_succ 1,hs⟩,by (simp only;omega),Yc.mk [] rfl rfl (Wd _) rfl (by push_cast [ze,zd,CLe,zh,szN]) (by (push_cast [ze,zd,CLe,zh];exact zS hs.stay))⟩
  ·have hs:=hX.step (r:=b) rfl (by simp[szN]) kb sb (by simp[szN];omega);push_cast [szN];refine Vg zjP zrB rfl rfl (by decide) rfl (qw kb) rfl (by rw[hX.len];omega) (by omega) (by omega) (by omega) (fun hc=>?_) (fun hc=>absurd hc (by omega));push_cast;have hs:GS 1 c a b 2 (spl X (a.length) b.flatten):=by simpa [szN] using hs
   exact ⟨(2,spl X (a.length) b.flatten),⟨Wb 2,hs⟩,by (simp only;omega),Yc.mk [] rfl rfl (Wd _) rfl (by push_cast [ze,zd,CLe,zh,szN]) (by (push_cast [ze,zd,CLe,zh];exact zS hs.stay))⟩
  ·push_cast [szN];exact ⟨_,[X],0,⟨⟨rfl,c,X,⟨by rw[Wn];omega,h2,hX.len,hX.stay,by rw[Wn];exact hX.cells⟩,rfl,rfl⟩,Wd _⟩,[],rfl,rfl,by (push_cast [ze,zd,CLe,zh];exact zS hX.stay),by push_cast [ze,zd,CLe,zh,Wn]⟩
theorem Mx:Fun Tryz.prog G 70 [.sl 1 [[.sl 1 []],[.sl 1 []]]] (.sl 1 []) 0:=by
 refine fon Tryz.func70 ?_;dsimp only[Tryz.f70];push_cast;refine loop (fun j:Nat=>⟨[(0,.sl 1 [[.sl 1 []],[.sl 1 []]]),(2,.sc (.slice none 0 0)),(3,.sc (.int .i64 0)),(9,.sl 1 [[.sl 1 []],[.sl 1 []]]),(10,.sc (.int .i64 2)),(11,.sc (.int .i64 j))],[],0,0⟩) (fun j=>j<=2) (fun j=>2-j) 0 (by decide) ?_ ?_
 ·exact wk
 intro j hj;obtain rfl | rfl | rfl:j=0∨j=1∨j=2:=by omega
 ·push_cast;exact ⟨1,by decide,by decide,wk⟩
 ·push_cast;exact ⟨2,by decide,by decide,wk⟩
 ·push_cast;refine cl zcB ?_;push_cast;refine loop (fun j:Nat=>⟨[(0,.sl 1 [[.sl 1 []],[.sl 1 []]]),(6,.own 0 9 1 []),(25,.sl 1 [[.sl 1 []],[.sl 1 []]]),(26,.sc (.int .i64 2)),(27,.sc (.int .i64 j))],[],1,0⟩) (fun j=>j<=2) (fun j=>2-j) 0 (by decide) ?_ ?_
  ·exact wks [.inr (9,1)]
  intro j hj;obtain rfl | rfl | rfl:j=0∨j=1∨j=2:=by omega
  ·push_cast;exact ⟨1,by decide,by decide,wks [.inl 0]⟩
  ·push_cast;exact ⟨2,by decide,by decide,wks [.inl 0]⟩
  ·push_cast;exact dn
end
end
end Go.Proofs.YtnpdbhbmakdklaaGreatDoor.Vcg
section
namespace Go.Proofs.YtnpdbhbmakdklaaGreatDoor.Kit
open Go.RowKit
theorem zb9 {a b:ByteArray} (h:a=b):Ending.returned (.string a) = .returned (.string b):=by rw[h]
def toL (s:ByteArray):Lz:=s.data.toList
def ofL (l:Lz):ByteArray:=⟨l.toArray⟩
@[simp] theorem zeu (l:Lz):toL (ofL l)=l:=by simp[toL,ofL]
@[simp] theorem zr6 (s:ByteArray):ofL (toL s)=s:=by cases s;simp[toL,ofL]
theorem G5 (s:ByteArray):(toL s).length=s.size:=WS
theorem GG (l:Lz):(ofL l).size=l.length:=by rw[←G5,zeu]
def join (sep:ByteArray) (xs:List ByteArray):ByteArray:=⟨(Lib.join (xs.map (·.data.toList)) sep.data.toList).toArray⟩
theorem join_one (sep x:ByteArray):join sep [x]=x:=by
 cases x;simp[join,Lib.join_one]
end Go.Proofs.YtnpdbhbmakdklaaGreatDoor.Kit
end
section
namespace Go.Proofs.YtnpdbhbmakdklaaGreatDoor.Kit
open Go.RowKit
def byteCells (l:Lz):Array Value:=(l.map fun c=>Value.int .u8 (c.toNat:Int)).toArray
theorem kS (w:World) (l:Lz) (T:TypeId) (fr:Nat×Nat) (n:Nat) (hn:n=w.heap.size):Lib.Bytes (w.alloc (.cells (byteCells l) T fr)) n 0 (ofL l):=by
 intro i h;subst hn;have h1:(w.alloc (.cells (byteCells l) T fr)).heap[w.heap.size]?=some (.cells (byteCells l) T fr):=by
  show (w.heap.push _)[w.heap.size]?=_;rw[Array.getElem?_push,if_pos rfl]
 simp only[World.cell?,h1];show (byteCells l)[0+i]?=_;have h2:i<l.length:=by rw[GG]at h;exact h
 rw[Ov,byteCells,Ah,Wy,Wa h2]
 rfl
theorem ziD {P:Program} (w:World) (l:Lz) (src e dst:TypeId) (hs:P.underlying src=some (.slice e)) (he:P.underlying e=some (.int .u8)) (hd:P.underlying dst=some .string) (cs:Array Value) (hcs:cs=byteCells l) (fr:Nat×Nat) (m cap n:Nat) (hm:m=w.heap.size) (hn:n=l.length) :
  (convert src dst (.slice (some ⟨m,0,none⟩) n cap)).run P (w.alloc (.cells cs e fr)) = .ok (.string (ofL l)) (w.alloc (.cells cs e fr)):=by
 subst hcs hm hn;have:=Lib.run_convert_whole (P:=P) (w.alloc (.cells (byteCells l) e fr)) src e dst hs he hd w.heap.size 0 (ofL l) (kS w l e fr _ rfl) cap;rw[GG]at this;exact this
end Go.Proofs.YtnpdbhbmakdklaaGreatDoor.Kit
end
section
namespace Go.Proofs.YtnpdbhbmakdklaaGreatDoor
open Go.RowKit
namespace QuoteWalk
open Kit QuotePlain
theorem zgA {c:UInt8} (h:good c=false):¬(32:Int)<=(c.toNat:Int)∨((32:Int)<=(c.toNat:Int)/\¬(c.toNat:Int)<=126)∨((32:Int)<=(c.toNat:Int)/\(c.toNat:Int)<=126/\((c.toNat:Int) != 34)=false) ∨
  ((32:Int)<=(c.toNat:Int)/\(c.toNat:Int)<=126/\((c.toNat:Int) != 34)=true/\((c.toNat:Int) != 92)=false):=by
 simp only[good,Of]at h;simp only[bne_iff_ne,ne_eq,bne_eq_false_iff_eq];omega
theorem zbt {c:UInt8} (h:good c=true):(32:Int)<=(c.toNat:Int)/\(c.toNat:Int)<=126/\((c.toNat:Int) != 34)=true/\((c.toNat:Int) != 92)=true:=by
 simp only[good,WR]at h;refine ⟨by omega,by omega,?_,?_⟩<;>(simp only[bne_iff_ne,ne_eq];omega)
theorem vp (c:UInt8) (w:World) :
  Calls Tryz.prog 198 #[.int .u8 c.toNat] w fun e w'=>e = .returned (.bool (good c))/\w=w':=by
 have hc:=c.toNat_lt;cases hg:good c with
 | true =>
  obtain ⟨g1,g2,g3,g4⟩:=zbt hg;clear hg
  go_enter Tryz.func198,Tryz.ntmps198
  go_wp2
  go_ret
  exact ⟨rfl,rfl⟩
 | false =>
  rcases zgA hg with h | ⟨h0,h⟩ | ⟨h0,h1,h2⟩ | ⟨h0,h1,h2,h3⟩
  all_goals clear hg
  ·go_enter Tryz.func198,Tryz.ntmps198
   go_wp2
   go_ret
   exact ⟨rfl,rfl⟩
  ·go_enter Tryz.func198,Tryz.ntmps198
   go_wp2
   go_ret
   exact ⟨rfl,rfl⟩
  ·go_enter Tryz.func198,Tryz.ntmps198
   go_wp2
   go_ret
   exact ⟨rfl,rfl⟩
  ·go_enter Tryz.func198,Tryz.ntmps198
   go_wp2
   go_ret
   exact ⟨rfl,rfl⟩
theorem zth (n:Nat) (h:n<16) (w:World):(Instr.index 9 (.string ⟨#[48,49,50,51,52,53,54,55,56,57,97,98,99,100,101,102]⟩) (.int .u8 (n:Int))).run Tryz.prog w = .ok (.int .u8 ((zbS n).toNat:Int)) w:=by
 rcases (by omega:n=0∨n=1∨n=2∨n=3∨n=4∨n=5∨n=6∨n=7∨n=8∨n=9∨n=10∨n=11∨n=12∨n=13∨n=14∨n=15) with rfl | rfl | rfl | rfl | rfl | rfl | rfl | rfl | rfl | rfl | rfl | rfl | rfl | rfl | rfl | rfl
 all_goals kernel_rfl
theorem zpu (c:UInt8) (w:World):(Instr.index 9 (.string ⟨#[48,49,50,51,52,53,54,55,56,57,97,98,99,100,101,102]⟩) (.int .u8 ((c.toNat:Int) / 16))).run Tryz.prog w = .ok (.int .u8 ((zbS (c.toNat / 16)).toNat:Int)) w:=
 zth (c.toNat / 16) (by have:=c.toNat_lt;omega) w
theorem zqW (c:UInt8) (w:World):(Instr.index 9 (.string ⟨#[48,49,50,51,52,53,54,55,56,57,97,98,99,100,101,102]⟩) (.int .u8 ((c.toNat:Int) % 16))).run Tryz.prog w = .ok (.int .u8 ((zbS (c.toNat % 16)).toNat:Int)) w:=
 zth (c.toNat % 16) (by omega) w
end QuoteWalk
end Go.Proofs.YtnpdbhbmakdklaaGreatDoor
end
section
namespace Go.Proofs
open YtnpdbhbmakdklaaGreatDoor
open Go.Shelf
def Tryz.zlays166_ren:Go.Shelf.Ren:=⟨fun | 166=>166 | 240=>199 | 276=>232 | n=>n,fun | 0=>0 | 3=>3 | 4=>4 | 9=>9 | 20=>20 | 37=>174 | 70=>218 | 72=>220 | 75=>223 | 164=>281 | 80=>226 | 5=>5 | n=>n,fun | n=>n⟩
theorem Tryz.zlays166:Go.Proofs.Lays.n166 Tryz.prog Tryz.zlays166_ren:={
 mixed:=by kernel_rfl
 f166:=Tryz.func166.trans (Wv some (by kernel_rfl))
 f240:=Tryz.func199.trans (Wv some (by kernel_rfl))
 f276:=Tryz.func232.trans (Wv some (by kernel_rfl))
 t0:=Tryz.underlying0
 a0:=Tryz.isAgg0
 z0:=Tryz.sizeOf0
 v0:=Tryz.zeroValue0
 t3:=Tryz.underlying3
 a3:=Tryz.isAgg3
 z3:=Tryz.sizeOf3
 v3:=Tryz.zeroValue3
 t4:=Tryz.underlying4
 a4:=Tryz.isAgg4
 z4:=Tryz.sizeOf4
 v4:=Tryz.zeroValue4
 t9:=Tryz.underlying9
 a9:=Tryz.isAgg9
 z9:=Tryz.sizeOf9
 v9:=Tryz.zeroValue9
 t20:=Tryz.underlying20
 a20:=Tryz.isAgg20
 z20:=Tryz.sizeOf20
 v20:=Tryz.zeroValue20
 t37:=Tryz.underlying174
 a37:=Tryz.isAgg174
 z37:=Tryz.sizeOf174
 v37:=Tryz.zeroValue174
 t70:=Tryz.underlying218
 a70:=Tryz.isAgg218
 z70:=Tryz.sizeOf218
 v70:=Tryz.zeroValue218
 t72:=Tryz.underlying220
 a72:=Tryz.isAgg220
 z72:=Tryz.sizeOf220
 v72:=Tryz.zeroValue220
 t75:=Tryz.underlying223
 a75:=Tryz.isAgg223
 z75:=Tryz.sizeOf223
 v75:=Tryz.zeroValue223
 t164:=Tryz.underlying281
 a164:=Tryz.isAgg281
 z164:=Tryz.sizeOf281
 v164:=Tryz.zeroValue281 }
theorem Tryz.zBuilder_Extra_166:Builder.Extra Tryz.prog Tryz.zlays166_ren:={
 sizeBuilder:=by kernel_rfl
 liesBuilder:=by kernel_rfl
 t5:=Tryz.underlying5
 a5:=Tryz.isAgg5
 z5:=Tryz.sizeOf5
 v5:=Tryz.zeroValue5
 infoByte:=by kernel_rfl
 cellsByte:=by kernel_rfl
 sizeByte:=by kernel_rfl
 neB5:=by decide }
def Tryz.zlays167_ren:Go.Shelf.Ren:=⟨fun | 167=>197 | 240=>199 | 276=>232 | n=>n,fun | 0=>0 | 4=>4 | 5=>5 | 9=>9 | 20=>20 | 37=>174 | 70=>218 | 72=>220 | 75=>223 | 164=>281 | 80=>226 | n=>n,fun | n=>n⟩
theorem Tryz.zlays167:Go.Proofs.Lays.n167 Tryz.prog Tryz.zlays167_ren:={
 mixed:=by kernel_rfl
 f167:=Tryz.func197.trans (Wv some (by kernel_rfl))
 f240:=Tryz.func199.trans (Wv some (by kernel_rfl))
 f276:=Tryz.func232.trans (Wv some (by kernel_rfl))
 t0:=Tryz.underlying0
 a0:=Tryz.isAgg0
 z0:=Tryz.sizeOf0
 v0:=Tryz.zeroValue0
 t4:=Tryz.underlying4
 a4:=Tryz.isAgg4
 z4:=Tryz.sizeOf4
 v4:=Tryz.zeroValue4
 t5:=Tryz.underlying5
 a5:=Tryz.isAgg5
 z5:=Tryz.sizeOf5
 v5:=Tryz.zeroValue5
 t9:=Tryz.underlying9
 a9:=Tryz.isAgg9
 z9:=Tryz.sizeOf9
 v9:=Tryz.zeroValue9
 t20:=Tryz.underlying20
 a20:=Tryz.isAgg20
 z20:=Tryz.sizeOf20
 v20:=Tryz.zeroValue20
 t37:=Tryz.underlying174
 a37:=Tryz.isAgg174
 z37:=Tryz.sizeOf174
 v37:=Tryz.zeroValue174
 t70:=Tryz.underlying218
 a70:=Tryz.isAgg218
 z70:=Tryz.sizeOf218
 v70:=Tryz.zeroValue218
 t72:=Tryz.underlying220
 a72:=Tryz.isAgg220
 z72:=Tryz.sizeOf220
 v72:=Tryz.zeroValue220
 t75:=Tryz.underlying223
 a75:=Tryz.isAgg223
 z75:=Tryz.sizeOf223
 v75:=Tryz.zeroValue223
 t164:=Tryz.underlying281
 a164:=Tryz.isAgg281
 z164:=Tryz.sizeOf281
 v164:=Tryz.zeroValue281 }
theorem Tryz.zBuilder_Extra_167:Builder.Extra Tryz.prog Tryz.zlays167_ren:={
 sizeBuilder:=by kernel_rfl
 liesBuilder:=by kernel_rfl
 t5:=Tryz.underlying5
 a5:=Tryz.isAgg5
 z5:=Tryz.sizeOf5
 v5:=Tryz.zeroValue5
 infoByte:=by kernel_rfl
 cellsByte:=by kernel_rfl
 sizeByte:=by kernel_rfl
 neB5:=by decide }
open Go.RowKit in
theorem Tryz.zBuilder_WriteByte (B b:Nat) (bs:List Value) (c:Int) (w:World) (h:Lib.IsBuilder 220 5 B b bs w) (hlen:bs.length+1<=140737488355328) (hBw:B<=w.heap.size) :
  Calls Tryz.prog 197 #[.pointer (some ⟨b,0,none⟩),.int .u8 c] w fun e w'=>e = .returned .nilIface/\(Lib.BuilderAt 220 5 B b (.pointer (some ⟨b,0,none⟩)) (bs++[.int .u8 c]) w'/\Below B w w'):=Any.Builder_WriteByte Tryz.zlays167 Tryz.zBuilder_Extra_167 B b bs c w h hlen hBw
open Go.RowKit in
theorem Tryz.zBuilder_WriteString (B b:Nat) (bs:List Value) (s:ByteArray) (w:World) (h:Lib.IsBuilder 220 5 B b bs w) (hlen:bs.length+s.size<=140737488355328) (hBw:B<=w.heap.size) :
  Calls Tryz.prog 166 #[.pointer (some ⟨b,0,none⟩),.string s] w fun e w'=>e = .returned (.tuple #[.int .i64 s.size,.nilIface])/\(Lib.BuilderAt 220 5 B b (.pointer (some ⟨b,0,none⟩)) (bs++Lib.strCells s) w'/\Below B w w'):=Any.Builder_WriteString Tryz.zlays166 Tryz.zBuilder_Extra_166 B b bs s w h hlen hBw
end Go.Proofs
end
section
namespace Go.Proofs.YtnpdbhbmakdklaaGreatDoor
open Go.RowKit
namespace QuoteWalk
open Kit QuotePlain
def pre (s:ByteArray) (k:Nat):Bs:=34 :: mid ((toL s).take k)
theorem zkD (s:ByteArray):pre s 0 = [34]:=by simp[pre,mid]
theorem zky (s:ByteArray) (k:Nat) (h:k<s.size) {c:UInt8} (hc:s[k]=c):pre s (k+1)=pre s k++qb c:=by
 have h':k<(toL s).length:=by rw[G5];exact h
 have:(toL s)[k]=c:=hc;rw[pre,pre,Aw h',this,mid,mid,AK];simp
theorem zmH (s:ByteArray) (k:Nat) (h:s.size<=k):pre s k++[34]=jR (toL s):=by
 rw[pre,Wg (by rw[G5];exact h)];rfl
theorem zpI (c:UInt8):(qb c).length<=4:=by unfold qb;split<;>simp
theorem mid_len (l:Bs):(mid l).length<=4*l.length:=by
 induction l with
 | nil=>simp[mid]
 | cons c l ih =>
  have:=zpI c;simp only[mid,O0,Wn,Wr]at ih ⊢;omega
theorem znZ (s:ByteArray) (k:Nat):(pre s k).length<=1+4*k:=by
 have h1:=mid_len ((toL s).take k);have h2:((toL s).take k).length<=k:=List.length_take_le _ _;simp only[pre,Wr];omega
def Bld (B:Nat) (l:Bs) (w:World):Prop:=Lib.BuilderAt 220 5 B B (.pointer (some ⟨B,0,none⟩)) (Lib.byteCells l) w
theorem Bld.alloc {B:Nat} {l:Bs} {w:World} (h:Bld B l w) (o:Obj):Bld B l (w.alloc o):=by
 obtain ⟨h1,v,h2,h3,h4⟩:=h;refine ⟨h1,v,?_,h3.alloc o,h4⟩;rw[Lib.alloc_old _ _ _ (Ao.1 h2).1];exact h2
theorem Bld.drew {B:Nat} {l:Bs} {w:World} (h:Bld B l w):Bld B l w.drew:=h
theorem M5 (B:Nat) (l:Bs) (c:UInt8) (w:World) (h:Bld B l w) (hl:l.length<140737488355328) (hB:B<=w.heap.size) :
  Calls Tryz.prog 197 #[.pointer (some ⟨B,0,none⟩),.int .u8 (c.toNat:Int)] w fun e w'=>e = .returned .nilIface/\Bld B (l++[c]) w'/\Below B w w':=by
 refine (Tryz.zBuilder_WriteByte B B (Lib.byteCells l) c.toNat w (.inr h) (by rw[Lib.byteCells_length];omega) hB).mono ?_;rintro e w' ⟨h1,h2,h3⟩;exact ⟨h1,by rw[Bld,Lib.byteCells_append];exact h2,h3⟩
theorem zby (w:World) (c:UInt8) :
  Calls Tryz.prog 197 #[.pointer (some ⟨w.heap.size,0,none⟩),.int .u8 (c.toNat:Int)] (w.alloc (.cells #[.pointer none,.slice none 0 0] 220 (0,0))) fun e w'=>e = .returned .nilIface/\Bld w.heap.size [c] w'/\Below w.heap.size w w':=by
 refine (Tryz.zBuilder_WriteByte w.heap.size w.heap.size [] c.toNat _ (Lib.fresh_isBuilder _ _ w) (by decide) (by simp)).mono ?_;rintro e w' ⟨h1,h2,h3⟩;exact ⟨h1,h2,((Ob _ _).alloc (Wb _) _).trans h3⟩
theorem y7 (B:Nat) (l:Bs) (x:ByteArray) (w:World) (h:Bld B l w) (hl:l.length+x.size<=140737488355328) (hB:B<=w.heap.size) :
  Calls Tryz.prog 166 #[.pointer (some ⟨B,0,none⟩),.string x] w fun e w'=>e = .returned (.tuple #[.int .i64 x.size,.nilIface])/\Bld B (l++toL x) w'/\Below B w w':=by
 refine (Tryz.zBuilder_WriteString B B (Lib.byteCells l) x w (.inr h) (by rw[Lib.byteCells_length];omega) hB).mono ?_;rintro e w' ⟨h1,h2,h3⟩;exact ⟨h1,by rw[Bld,Lib.byteCells_append];exact h2,h3⟩
theorem zd2 (B:Nat) (l:Bs) (w:World) (h:Bld B l w) (hB:B<=w.heap.size) :
  Calls Tryz.prog 167 #[.pointer (some ⟨B,0,none⟩)] w fun e w'=>e = .returned (.string (ofL l))/\Below B w w':=
 Tryz.Builder_String_any B B l w (.inr h) hB
theorem zqF (c:UInt8):bits BinOp.and IntKind.u8 (c.toNat:Int) 15=(c.toNat:Int) % 16:=by
 have:=zgz (p:=fun c=>decide (bits BinOp.and IntKind.u8 (c.toNat:Int) 15=(c.toNat:Int) % 16)) (by decide +kernel) c;exact WP this
theorem quote_walk (s:ByteArray) (w:World) (hs:s.size<=1099511627776) :
  Calls Tryz.prog 163 #[.string s] w fun e w'=>e = .returned (.string (ofL (jR (toL s))))/\Below w.heap.size w w':=by
 go_enter Tryz.func163,Tryz.ntmps163
 go_wp2_with fail
 refine (zby w 34).mono ?_;rintro e w1 ⟨rfl,hI1,hB1⟩
 go_wp2_with fail
 go_loopw [9] (fun i wr=>∃ k:Nat,k<=s.size/\i = .int .i64 k/\Bld w.heap.size (pre s k) wr/\Below w.heap.size w wr) (fun i _=>s.size-(intOf i).toNat)
 case atStart=>exact ⟨0,by omega,rfl,by rw[zkD];exact hI1,hB1⟩
 case round =>
  obtain ⟨k,hk,rfl,hI,hB⟩:=hrel;clear hI1 hB1;have hpl:=znZ s k;by_cases hlt:k<s.size
  ·obtain ⟨c,hc⟩:∃ c,s[k]=c:=⟨_,rfl⟩;have hsn:=Lib.hid (zky s k hlt hc)
   go_wp2_with fail
   refine (vp c _).mono ?_;rintro e w' ⟨rfl,rfl⟩;cases hg:good c with
   | true =>
    have hq:=Lib.hid (show qb c = [c] by rw[qb,if_pos hg]);clear hg
    go_wp2_with fail
    refine (M5 w.heap.size (pre s k) c _ hI (by omega) hB.size).mono ?_;rintro e w2 ⟨rfl,hI2,hb2⟩
    go_wp2
    go_roundw
    case rel=>exact ⟨k+1,by omega,by go_num,by rw[hsn.out,hq.out];exact hI2,hB.trans hb2⟩
    case measure=>simp[intOf];omega
   | false =>
    have hq:=Lib.hid (show qb c = [92,120,zbS (c.toNat / 16),zbS (c.toNat % 16)] by rw[qb,hg];rfl);clear hg;have x1:=zpu c;have x2:=zqW c;have x3:=zqF c;have hcv:=fun w2:World=>ziD (P:=Tryz.prog) w2 [92,120,zbS (c.toNat / 16),zbS (c.toNat % 16)] 174 5 9 Tryz.underlying174 Tryz.underlying5 Tryz.underlying9 #[.int .u8 92,.int .u8 120,.int .u8 (zbS (c.toNat / 16)).toNat,.int .u8 (zbS (c.toNat % 16)).toNat] rfl (0,0) w2.heap.size 4 4 rfl rfl
    go_wp2_with fail
    go_still_tail 6,(by kernel_rfl)
    change wpList _ _ _ _ _ wr.drew;obtain ⟨w2,hw2,hI2,hsz⟩:∃ w2:World,Below w.heap.size w w2/\Bld w.heap.size (pre s k) w2/\w2=wr.drew:=⟨_,hB.drew,hI.drew,rfl⟩;rw[←hsz];clear hsz hI hB
    go_wp2_with fail
    refine (y7 w.heap.size (pre s k) (ofL [92,120,zbS (c.toNat / 16),zbS (c.toNat % 16)]) _ (hI2.alloc _) (by rw[GG];show _+4<=_;omega) (by have:=hw2.size;simp;omega)).mono ?_;rintro e w3 ⟨rfl,hI3,hb3⟩;rw[zeu]at hI3;have hB3:=(hw2.alloc hw2.size _).trans hb3;clear hb3 hcv x1 x2 x3 hI2
    go_wp2
    go_roundw
    case rel=>exact ⟨k+1,by omega,by go_num,by rw[hsn.out,hq.out];exact hI3,hB3⟩
    case measure=>simp[intOf];omega
  ·have hfin:=Lib.hid (zmH s k (by omega))
   go_wp2_with fail
   refine (M5 w.heap.size (pre s k) 34 _ hI (by omega) hB.size).mono ?_;rintro e w2 ⟨rfl,hI2,hb2⟩
   go_wp2_with fail
   refine (zd2 w.heap.size _ _ hI2 (hB.trans hb2).size).mono ?_;rintro e w3 ⟨rfl,hb3⟩
   go_wp2
   go_ret
   exact ⟨zb9 (by rw[hfin.out]),(hB.trans hb2).trans hb3⟩
end QuoteWalk
end Go.Proofs.YtnpdbhbmakdklaaGreatDoor
end
namespace Go.Proofs.YtnpdbhbmakdklaaGreatDoor.Vcg
variable {k N:Nat} {w:qH} {f:FsV} {args:List C} {n p:Int} {d:zF} {ns:List Lz} {l:List (Int×Int)} {xs:List zl}
section
open Go.RowKit
def phr:List Lz:=[[],[99,97,110,110,111,116,32,99,114,101,97,116,101,32,100,105,114,101,99,116,111,114,121,32,65,58,32,69],[99,97,110,110,111,116,32,114,101,109,111,118,101,32,65,58,32,69],[114,101,102,117,115,105,110,103,32,116,111,32,114,101,109,111,118,101,32,34,46,34,32,111,114,32,34,46,46,34,32,100,105,114,101,99,116,111,114,121,58,32,115,107,105,112,112,105,110,103,32,65],[105,116,32,105,115,32,100,97,110,103,101,114,111,117,115,32,116,111,32,111,112,101,114,97,116,101,32,114,101,99,117,114,115,105,118,101,108,121,32,111,110,32,65],[102,97,105,108,101,100,32,116,111,32,97,99,99,101,115,115,32,65,58,32,69],[65,58,32,104,97,114,100,32,108,105,110,107,32,110,111,116,32,97,108,108,111,119,101,100,32,102,111,114,32,100,105,114,101,99,116,111,114,121],[102,97,105,108,101,100,32,116,111,32,99,114,101,97,116,101,32,104,97,114,100,32,108,105,110,107,32,66,58,32,69],[102,97,105,108,101,100,32,116,111,32,99,114,101,97,116,101,32,115,121,109,98,111,108,105,99,32,108,105,110,107,32,66,58,32,69],[65,32,97,110,100,32,66,32,97,114,101,32,116,104,101,32,115,97,109,101,32,102,105,108,101],[116,97,114,103,101,116,32,65,32,105,115,32,110,111,116,32,97,32,100,105,114,101,99,116,111,114,121],[99,97,110,110,111,116,32,115,116,97,116,32,65,58,32,69],[99,97,110,110,111,116,32,111,118,101,114,119,114,105,116,101,32,110,111,110,45,100,105,114,101,99,116,111,114,121,32,66,32,119,105,116,104,32,100,105,114,101,99,116,111,114,121,32,65],[99,97,110,110,111,116,32,111,118,101,114,119,114,105,116,101,32,100,105,114,101,99,116,111,114,121,32,66,32,119,105,116,104,32,110,111,110,45,100,105,114,101,99,116,111,114,121,32,65],[99,97,110,110,111,116,32,109,111,118,101,32,65,32,116,111,32,97,32,115,117,98,100,105,114,101,99,116,111,114,121,32,111,102,32,105,116,115,101,108,102,44,32,66],[99,97,110,110,111,116,32,109,111,118,101,32,65,32,116,111,32,66,58,32,69],[45,114,32,110,111,116,32,115,112,101,99,105,102,105,101,100,59,32,111,109,105,116,116,105,110,103,32,100,105,114,101,99,116,111,114,121,32,65],[99,97,110,110,111,116,32,99,114,101,97,116,101,32,114,101,103,117,108,97,114,32,102,105,108,101,32,66,58,32,69],[99,97,110,110,111,116,32,99,114,101,97,116,101,32,115,121,109,98,111,108,105,99,32,108,105,110,107,32,66,58,32,69],[99,97,110,110,111,116,32,99,111,112,121,32,97,32,100,105,114,101,99,116,111,114,121,44,32,65,44,32,105,110,116,111,32,105,116,115,101,108,102,44,32,66],[110,111,116,32,119,114,105,116,105,110,103,32,116,104,114,111,117,103,104,32,100,97,110,103,108,105,110,103,32,115,121,109,108,105,110,107,32,66],[101,114,114,111,114,32,119,114,105,116,105,110,103,32,66,58,32,69],[99,97,110,110,111,116,32,99,114,101,97,116,101,32,100,105,114,101,99,116,111,114,121,32,66,58,32,69]]
def ztn:List Lz:=[[83,117,99,99,101,115,115],[78,111,32,115,117,99,104,32,102,105,108,101,32,111,114,32,100,105,114,101,99,116,111,114,121],[70,105,108,101,32,101,120,105,115,116,115],[78,111,116,32,97,32,100,105,114,101,99,116,111,114,121],[73,115,32,97,32,100,105,114,101,99,116,111,114,121],[68,105,114,101,99,116,111,114,121,32,110,111,116,32,101,109,112,116,121],[84,111,111,32,109,97,110,121,32,108,101,118,101,108,115,32,111,102,32,115,121,109,98,111,108,105,99,32,108,105,110,107,115],[70,105,108,101,32,110,97,109,101,32,116,111,111,32,108,111,110,103],[78,111,32,115,112,97,99,101,32,108,101,102,116,32,111,110,32,100,101,118,105,99,101],[73,110,118,97,108,105,100,32,97,114,103,117,109,101,110,116],[68,101,118,105,99,101,32,111,114,32,114,101,115,111,117,114,99,101,32,98,117,115,121],[79,112,101,114,97,116,105,111,110,32,110,111,116,32,112,101,114,109,105,116,116,101,100],[77,97,108,102,111,114,109,101,100,32,116,101,120,116],[78,111,116,32,105,110,32,116,104,101,32,115,116,97,115,104]]
def zo9:List Value:=[.string ⟨#[]⟩,.string ⟨#[]⟩,.int .i64 0,.string ⟨#[109,107,100,105,114]⟩,.string ⟨#[112]⟩,.int .i64 1,.string ⟨#[114,109]⟩,.string ⟨#[82,100,102,114]⟩,.int .i64 1,.string ⟨#[108,110]⟩,.string ⟨#[84,102,110,115]⟩,.int .i64 1,.string ⟨#[109,118]⟩,.string ⟨#[84,102,110]⟩,.int .i64 2,.string ⟨#[99,112]⟩,.string ⟨#[80,82,84,102,110,114]⟩,.int .i64 2]
def G2:zq:=fun g=>if g=1 then some (phr.map C.str) else if g=0 then some (zo9.map zD) else if g=2 then some (ztn.map C.str) else none
theorem zqR:G2 1=some [.str [],.str [99,97,110,110,111,116,32,99,114,101,97,116,101,32,100,105,114,101,99,116,111,114,121,32,65,58,32,69],.str [99,97,110,110,111,116,32,114,101,109,111,118,101,32,65,58,32,69],.str [114,101,102,117,115,105,110,103,32,116,111,32,114,101,109,111,118,101,32,34,46,34,32,111,114,32,34,46,46,34,32,100,105,114,101,99,116,111,114,121,58,32,115,107,105,112,112,105,110,103,32,65],.str [105,116,32,105,115,32,100,97,110,103,101,114,111,117,115,32,116,111,32,111,112,101,114,97,116,101,32,114,101,99,117,114,115,105,118,101,108,121,32,111,110,32,65],.str [102,97,105,108,101,100,32,116,111,32,97,99,99,101,115,115,32,65,58,32,69],.str [65,58,32,104,97,114,100,32,108,105,110,107,32,110,111,116,32,97,108,108,111,119,101,100,32,102,111,114,32,100,105,114,101,99,116,111,114,121],.str [102,97,105,108,101,100,32,116,111,32,99,114,101,97,116,101,32,104,97,114,100,32,108,105,110,107,32,66,58,32,69],.str [102,97,105,108,101,100,32,116,111,32,99,114,101,97,116,101,32,115,121,109,98,111,108,105,99,32,108,105,110,107,32,66,58,32,69],.str [65,32,97,110,100,32,66,32,97,114,101,32,116,104,101,32,115,97,109,101,32,102,105,108,101],.str [116,97,114,103,101,116,32,65,32,105,115,32,110,111,116,32,97,32,100,105,114,101,99,116,111,114,121],.str [99,97,110,110,111,116,32,115,116,97,116,32,65,58,32,69],.str [99,97,110,110,111,116,32,111,118,101,114,119,114,105,116,101,32,110,111,110,45,100,105,114,101,99,116,111,114,121,32,66,32,119,105,116,104,32,100,105,114,101,99,116,111,114,121,32,65],.str [99,97,110,110,111,116,32,111,118,101,114,119,114,105,116,101,32,100,105,114,101,99,116,111,114,121,32,66,32,119,105,116,104,32,110,111,110,45,100,105,114,101,99,116,111,114,121,32,65],.str [99,97,110,110,111,116,32,109,111,118,101,32,65,32,116,111,32,97,32,115,117,98,100,105,114,101,99,116,111,114,121,32,111,102,32,105,116,115,101,108,102,44,32,66],.str [99,97,110,110,111,116,32,109,111,118,101,32,65,32,116,111,32,66,58,32,69],.str [45,114,32,110,111,116,32,115,112,101,99,105,102,105,101,100,59,32,111,109,105,116,116,105,110,103,32,100,105,114,101,99,116,111,114,121,32,65],.str [99,97,110,110,111,116,32,99,114,101,97,116,101,32,114,101,103,117,108,97,114,32,102,105,108,101,32,66,58,32,69],.str [99,97,110,110,111,116,32,99,114,101,97,116,101,32,115,121,109,98,111,108,105,99,32,108,105,110,107,32,66,58,32,69],.str [99,97,110,110,111,116,32,99,111,112,121,32,97,32,100,105,114,101,99,116,111,114,121,44,32,65,44,32,105,110,116,111,32,105,116,115,101,108,102,44,32,66],.str [110,111,116,32,119,114,105,116,105,110,103,32,116,104,114,111,117,103,104,32,100,97,110,103,108,105,110,103,32,115,121,109,108,105,110,107,32,66],.str [101,114,114,111,114,32,119,114,105,116,105,110,103,32,66,58,32,69],.str [99,97,110,110,111,116,32,99,114,101,97,116,101,32,100,105,114,101,99,116,111,114,121,32,66,58,32,69]]:=rfl
theorem ziC:G2 0=some [.str [],.str [],.sc (.int .i64 0),.str [109,107,100,105,114],.str [112],.sc (.int .i64 1),.str [114,109],.str [82,100,102,114],.sc (.int .i64 1),.str [108,110],.str [84,102,110,115],.sc (.int .i64 1),.str [109,118],.str [84,102,110],.sc (.int .i64 2),.str [99,112],.str [80,82,84,102,110,114],.sc (.int .i64 2)]:=rfl
theorem zmT:G2 2=some [.str [83,117,99,99,101,115,115],.str [78,111,32,115,117,99,104,32,102,105,108,101,32,111,114,32,100,105,114,101,99,116,111,114,121],.str [70,105,108,101,32,101,120,105,115,116,115],.str [78,111,116,32,97,32,100,105,114,101,99,116,111,114,121],.str [73,115,32,97,32,100,105,114,101,99,116,111,114,121],.str [68,105,114,101,99,116,111,114,121,32,110,111,116,32,101,109,112,116,121],.str [84,111,111,32,109,97,110,121,32,108,101,118,101,108,115,32,111,102,32,115,121,109,98,111,108,105,99,32,108,105,110,107,115],.str [70,105,108,101,32,110,97,109,101,32,116,111,111,32,108,111,110,103],.str [78,111,32,115,112,97,99,101,32,108,101,102,116,32,111,110,32,100,101,118,105,99,101],.str [73,110,118,97,108,105,100,32,97,114,103,117,109,101,110,116],.str [68,101,118,105,99,101,32,111,114,32,114,101,115,111,117,114,99,101,32,98,117,115,121],.str [79,112,101,114,97,116,105,111,110,32,110,111,116,32,112,101,114,109,105,116,116,101,100],.str [77,97,108,102,111,114,109,101,100,32,116,101,120,116],.str [78,111,116,32,105,110,32,116,104,101,32,115,116,97,115,104]]:=rfl
attribute [push_cast] zqR ziC zmT
def HQ (k:Int):Lz:=if k=1 then [109,107,100,105,114] else if k=2 then [114,109] else if k=3 then [108,110] else if k=4 then [109,118] else if k=5 then [99,112] else []
def jh (k:Int):Lz:=if k=1 then [99,97,110,110,111,116,32,99,114,101,97,116,101,32,100,105,114,101,99,116,111,114,121,32,65,58,32,69] else if k=2 then [99,97,110,110,111,116,32,114,101,109,111,118,101,32,65,58,32,69] else if k=3 then [114,101,102,117,115,105,110,103,32,116,111,32,114,101,109,111,118,101,32,34,46,34,32,111,114,32,34,46,46,34,32,100,105,114,101,99,116,111,114,121,58,32,115,107,105,112,112,105,110,103,32,65] else if k=4 then [105,116,32,105,115,32,100,97,110,103,101,114,111,117,115,32,116,111,32,111,112,101,114,97,116,101,32,114,101,99,117,114,115,105,118,101,108,121,32,111,110,32,65] else if k=5 then [102,97,105,108,101,100,32,116,111,32,97,99,99,101,115,115,32,65,58,32,69] else if k=6 then [65,58,32,104,97,114,100,32,108,105,110,107,32,110,111,116,32,97,108,108,111,119,101,100,32,102,111,114,32,100,105,114,101,99,116,111,114,121] else if k=7 then [102,97,105,108,101,100,32,116,111,32,99,114,101,97,116,101,32,104,97,114,100,32,108,105,110,107,32,66,58,32,69] else if k=8 then [102,97,105,108,101,100,32,116,111,32,99,114,101,97,116,101,32,115,121,109,98,111,108,105,99,32,108,105,110,107,32,66,58,32,69] else if k=9 then [65,32,97,110,100,32,66,32,97,114,101,32,116,104,101,32,115,97,109,101,32,102,105,108,101] else if k=10 then [116,97,114,103,101,116,32,65,32,105,115,32,110,111,116,32,97,32,100,105,114,101,99,116,111,114,121] else if k=11 then [99,97,110,110,111,116,32,115,116,97,116,32,65,58,32,69] else if k=12 then [99,97,110,110,111,116,32,111,118,101,114,119,114,105,116,101,32,110,111,110,45,100,105,114,101,99,116,111,114,121,32,66,32,119,105,116,104,32,100,105,114,101,99,116,111,114,121,32,65] else if k=13 then [99,97,110,110,111,116,32,111,118,101,114,119,114,105,116,101,32,100,105,114,101,99,116,111,114,121,32,66,32,119,105,116,104,32,110,111,110,45,100,105,114,101,99,116,111,114,121,32,65] else if k=14 then [99,97,110,110,111,116,32,109,111,118,101,32,65,32,116,111,32,97,32,115,117,98,100,105,114,101,99,116,111,114,121,32,111,102,32,105,116,115,101,108,102,44,32,66] else if k=15 then [99,97,110,110,111,116,32,109,111,118,101,32,65,32,116,111,32,66,58,32,69] else if k=16 then [45,114,32,110,111,116,32,115,112,101,99,105,102,105,101,100,59,32,111,109,105,116,116,105,110,103,32,100,105,114,101,99,116,111,114,121,32,65] else if k=17 then [99,97,110,110,111,116,32,99,114,101,97,116,101,32,114,101,103,117,108,97,114,32,102,105,108,101,32,66,58,32,69] else if k=18 then [99,97,110,110,111,116,32,99,114,101,97,116,101,32,115,121,109,98,111,108,105,99,32,108,105,110,107,32,66,58,32,69] else if k=19 then [99,97,110,110,111,116,32,99,111,112,121,32,97,32,100,105,114,101,99,116,111,114,121,44,32,65,44,32,105,110,116,111,32,105,116,115,101,108,102,44,32,66] else if k=20 then [110,111,116,32,119,114,105,116,105,110,103,32,116,104,114,111,117,103,104,32,100,97,110,103,108,105,110,103,32,115,121,109,108,105,110,107,32,66] else if k=21 then [101,114,114,111,114,32,119,114,105,116,105,110,103,32,66,58,32,69] else if k=22 then [99,97,110,110,111,116,32,99,114,101,97,116,101,32,100,105,114,101,99,116,111,114,121,32,66,58,32,69] else []
def uq (k:Int):Lz:=if k=0 then [83,117,99,99,101,115,115] else if k=1 then [78,111,32,115,117,99,104,32,102,105,108,101,32,111,114,32,100,105,114,101,99,116,111,114,121] else if k=2 then [70,105,108,101,32,101,120,105,115,116,115] else if k=3 then [78,111,116,32,97,32,100,105,114,101,99,116,111,114,121] else if k=4 then [73,115,32,97,32,100,105,114,101,99,116,111,114,121] else if k=5 then [68,105,114,101,99,116,111,114,121,32,110,111,116,32,101,109,112,116,121] else if k=6 then [84,111,111,32,109,97,110,121,32,108,101,118,101,108,115,32,111,102,32,115,121,109,98,111,108,105,99,32,108,105,110,107,115] else if k=7 then [70,105,108,101,32,110,97,109,101,32,116,111,111,32,108,111,110,103] else if k=8 then [78,111,32,115,112,97,99,101,32,108,101,102,116,32,111,110,32,100,101,118,105,99,101] else if k=9 then [73,110,118,97,108,105,100,32,97,114,103,117,109,101,110,116] else if k=10 then [68,101,118,105,99,101,32,111,114,32,114,101,115,111,117,114,99,101,32,98,117,115,121] else if k=11 then [79,112,101,114,97,116,105,111,110,32,110,111,116,32,112,101,114,109,105,116,116,101,100] else if k=12 then [77,97,108,102,111,114,109,101,100,32,116,101,120,116] else if k=13 then [78,111,116,32,105,110,32,116,104,101,32,115,116,97,115,104] else [85,110,107,110,111,119,110,32,101,114,114,111,114]
theorem Mf (k:Int):Fun Tryz.prog G2 117 [.sc (.int .i64 k)] (.str (HQ k)) 0:=by
 by_cases h1:1<=k
 ·by_cases h2:k<=5
  ·have hc:k=1∨k=2∨k=3∨k=4∨k=5:=by omega
   clear h1 h2;rcases hc with rfl | rfl | rfl | rfl | rfl
   all_goals
    refine fon Tryz.func117 ?_;dsimp only[Tryz.f117];push_cast;exact ⟨[],rfl,rfl,by simp only[HQ];push_cast [ze,zd,CLe,zh]<;>rfl⟩
  ·have n1:¬k=1:=(by omega);have n2:¬k=2:=(by omega);have n3:¬k=3:=(by omega);have n4:¬k=4:=(by omega);have n5:¬k=5:=(by omega);have f1:¬k<1:=(by omega);have f2:6<=k:=(by omega);have f3:5<k:=(by omega);refine fon Tryz.func117 ?_;dsimp only[Tryz.f117];push_cast [f1,f2,f3,n1,n2,n3,n4,n5];exact ⟨[],rfl,rfl,by push_cast [ze,zd,CLe,zh]<;>simp[HQ,n1,n2,n3,n4,n5]⟩
 ·have n1:¬k=1:=(by omega);have n2:¬k=2:=(by omega);have n3:¬k=3:=(by omega);have n4:¬k=4:=(by omega);have n5:¬k=5:=(by omega);have f1:k<1:=by omega
  refine fon Tryz.func117 ?_;dsimp only[Tryz.f117];push_cast [f1,n1,n2,n3,n4,n5];exact ⟨[],rfl,rfl,by push_cast [ze,zd,CLe,zh]<;>simp[HQ,n1,n2,n3,n4,n5]⟩
theorem zc8 (k:Int):Fun Tryz.prog G2 118 [.sc (.int .i64 k)] (.str (jh k)) 0:=by
 by_cases h1:0<=k
 ·by_cases h2:k<=22
  ·have hc:k=0∨k=1∨k=2∨k=3∨k=4∨k=5∨k=6∨k=7∨k=8∨k=9∨k=10∨k=11∨k=12∨k=13∨k=14∨k=15∨k=16∨k=17∨k=18∨k=19∨k=20∨k=21∨k=22:=by omega
   clear h1 h2;rcases hc with rfl | rfl | rfl | rfl | rfl | rfl | rfl | rfl | rfl | rfl | rfl | rfl | rfl | rfl | rfl | rfl | rfl | rfl | rfl | rfl | rfl | rfl | rfl
   all_goals
    refine fon Tryz.func118 ?_;dsimp only[Tryz.f118];push_cast;exact ⟨[],rfl,rfl,by simp only[jh];push_cast [ze,zd,CLe,zh]<;>rfl⟩
  ·have n1:¬k=1:=(by omega);have n2:¬k=2:=(by omega);have n3:¬k=3:=(by omega);have n4:¬k=4:=(by omega);have n5:¬k=5:=(by omega);have n6:¬k=6:=(by omega);have n7:¬k=7:=(by omega);have n8:¬k=8:=(by omega);have n9:¬k=9:=(by omega);have n10:¬k=10:=(by omega);have n11:¬k=11:=(by omega);have n12:¬k=12:=(by omega);have n13:¬k=13:=(by omega);have n14:¬k=14:=(by omega);have n15:¬k=15:=(by omega);have n16:¬k=16:=(by omega);have n17:¬k=17:=(by omega);have n18:¬k=18:=(by omega);have n19:¬k=19:=(by omega);have n20:¬k=20:=(by omega);have n21:¬k=21:=(by omega);have n22:¬k=22:=(by omega);have f1:¬k<0:=(by omega);have f2:23<=k:=(by omega);have f3:22<k:=(by omega);refine fon Tryz.func118 ?_;dsimp only[Tryz.f118];push_cast [f1,f2,f3,n1,n2,n3,n4,n5,n6,n7,n8,n9,n10,n11,n12,n13,n14,n15,n16,n17,n18,n19,n20,n21,n22];exact ⟨[],rfl,rfl,by push_cast [ze,zd,CLe,zh]<;>simp[jh,n1,n2,n3,n4,n5,n6,n7,n8,n9,n10,n11,n12,n13,n14,n15,n16,n17,n18,n19,n20,n21,n22]⟩
 ·have n1:¬k=1:=(by omega);have n2:¬k=2:=(by omega);have n3:¬k=3:=(by omega);have n4:¬k=4:=(by omega);have n5:¬k=5:=(by omega);have n6:¬k=6:=(by omega);have n7:¬k=7:=(by omega);have n8:¬k=8:=(by omega);have n9:¬k=9:=(by omega);have n10:¬k=10:=(by omega);have n11:¬k=11:=(by omega);have n12:¬k=12:=(by omega);have n13:¬k=13:=(by omega);have n14:¬k=14:=(by omega);have n15:¬k=15:=(by omega);have n16:¬k=16:=(by omega);have n17:¬k=17:=(by omega);have n18:¬k=18:=(by omega);have n19:¬k=19:=(by omega);have n20:¬k=20:=(by omega);have n21:¬k=21:=(by omega);have n22:¬k=22:=(by omega);have f1:k<0:=by omega
  refine fon Tryz.func118 ?_;dsimp only[Tryz.f118];push_cast [f1,n1,n2,n3,n4,n5,n6,n7,n8,n9,n10,n11,n12,n13,n14,n15,n16,n17,n18,n19,n20,n21,n22];exact ⟨[],rfl,rfl,by push_cast [ze,zd,CLe,zh]<;>simp[jh,n1,n2,n3,n4,n5,n6,n7,n8,n9,n10,n11,n12,n13,n14,n15,n16,n17,n18,n19,n20,n21,n22]⟩
theorem ue (k:Int):Fun Tryz.prog G2 164 [.sc (.int .i64 k)] (.str (uq k)) 0:=by
 by_cases h1:0<=k
 ·by_cases h2:k<=13
  ·have hc:k=0∨k=1∨k=2∨k=3∨k=4∨k=5∨k=6∨k=7∨k=8∨k=9∨k=10∨k=11∨k=12∨k=13:=by omega
   clear h1 h2;rcases hc with rfl | rfl | rfl | rfl | rfl | rfl | rfl | rfl | rfl | rfl | rfl | rfl | rfl | rfl
   all_goals
    refine fon Tryz.func164 ?_;dsimp only[Tryz.f164];push_cast;exact ⟨[],rfl,rfl,by simp only[uq];push_cast [ze,zd,CLe,zh]<;>rfl⟩
  ·have n0:¬k=0:=(by omega);have n1:¬k=1:=(by omega);have n2:¬k=2:=(by omega);have n3:¬k=3:=(by omega);have n4:¬k=4:=(by omega);have n5:¬k=5:=(by omega);have n6:¬k=6:=(by omega);have n7:¬k=7:=(by omega);have n8:¬k=8:=(by omega);have n9:¬k=9:=(by omega);have n10:¬k=10:=(by omega);have n11:¬k=11:=(by omega);have n12:¬k=12:=(by omega);have n13:¬k=13:=(by omega);have f1:¬k<0:=(by omega);have f2:14<=k:=(by omega);have f3:13<k:=(by omega);refine fon Tryz.func164 ?_;dsimp only[Tryz.f164];push_cast [f1,f2,f3,n0,n1,n2,n3,n4,n5,n6,n7,n8,n9,n10,n11,n12,n13];exact ⟨[],rfl,rfl,by push_cast [ze,zd,CLe,zh]<;>simp[uq,n0,n1,n2,n3,n4,n5,n6,n7,n8,n9,n10,n11,n12,n13]⟩
 ·have n0:¬k=0:=(by omega);have n1:¬k=1:=(by omega);have n2:¬k=2:=(by omega);have n3:¬k=3:=(by omega);have n4:¬k=4:=(by omega);have n5:¬k=5:=(by omega);have n6:¬k=6:=(by omega);have n7:¬k=7:=(by omega);have n8:¬k=8:=(by omega);have n9:¬k=9:=(by omega);have n10:¬k=10:=(by omega);have n11:¬k=11:=(by omega);have n12:¬k=12:=(by omega);have n13:¬k=13:=(by omega);have f1:k<0:=by omega
  refine fon Tryz.func164 ?_;dsimp only[Tryz.f164];push_cast [f1,n0,n1,n2,n3,n4,n5,n6,n7,n8,n9,n10,n11,n12,n13];exact ⟨[],rfl,rfl,by push_cast [ze,zd,CLe,zh]<;>simp[uq,n0,n1,n2,n3,n4,n5,n6,n7,n8,n9,n10,n11,n12,n13]⟩
open QuotePlain in
theorem My (l:Lz) (hl:l.length<=1000000):Fun Tryz.prog G0 163 [.str l] (.str (jR l)) 0:=by
 refine Fun.wrap (by kernel_rfl) fun R vs h=>?_;obtain ⟨v1,us1,rfl,h1,h⟩:=zg.1 h;rw[zm]at h;subst h;rw[qc]at h1;subst h1;refine (QuoteWalk.quote_walk ⟨l.toArray⟩ R.w (by simp[ByteArray.size];omega)).mono ?_;rintro e w' ⟨rfl,hb⟩;exact ⟨_,rfl,hb,fun R' _=>qc.2 (by simp[Kit.ofL,Kit.toL])⟩
end
section
open Go.RowKit
theorem Fun.res {P:Program} {G:zq} {f:FuncId} {r r':C} {n:Nat} (h:Fun P G f args r n) (e:r=r'):Fun P G f args r' n:=e▸h
theorem Zb.glob0 {P:Program} {G':zq} {f:FuncId} {bx bx':List (List C)} {q:Nat} {r:C} {n:Nat} (h:Zb P G0 f args bx q r bx' n):Zb P G' f args bx q r bx' n:=
 ⟨h.1,fun R L vs hg=>h.2 R L vs fun g cs e=>by cases e⟩
theorem yu.glob0 {P:Program} {G':zq} {f:FuncId} {first cap:List C} {bx items:List (List C)} (h:yu P G0 f first cap bx items):yu P G' f first cap bx items:=
 ⟨h.1,fun l st J R L us vs hg=>h.2 l st J R L us vs fun g cs e=>by cases e⟩
def Zy (c:UInt8):Lz->List Lz
 | []=>[[]]
 | b :: l=>if b=c then [] :: Zy c l else match Zy c l with
  | []=>[[b]]
  | x :: r=>(b :: x) :: r
theorem UY (c:UInt8):∀ l:Lz,Lib.indexByte l c<0->Zy c l = [l]
 | [],_=>rfl
 | b :: l,h=>by
  unfold Lib.indexByte at h;by_cases hb:b=c
  ·subst hb;simp at h
  ·have hb':(b==c)=false:=by simpa using hb
   rw[hb']at h;simp only[Oa,Ol]at h;have hl:Lib.indexByte l c<0:=by
    split at h
    ·rename_i g;have:=Oz.1 g;omega
    ·omega
   unfold Zy;rw[if_neg hb,UY c l hl]
theorem kB (c:UInt8):∀ l:Lz,-1<=Lib.indexByte l c
 | []=>O7 _
 | b :: l=>by
  have:=kB c l;unfold Lib.indexByte;split
  ·decide
  ·split
   ·decide
   ·omega
theorem x0 (c:UInt8):∀ (l:Lz) (i:Nat),Lib.indexByte l c=(i:Int)->i<l.length/\Zy c l=l.take i :: Zy c (l.drop (i+1))
 | [],i,h=>by
  have h:(-1:Int)=(i:Int):=h;omega
 | b :: l,i,h=>by
  unfold Lib.indexByte at h;by_cases hb:b=c
  ·subst hb;simp at h;obtain rfl:i=0:=by omega
   refine ⟨by simp,?_⟩
   conv=>lhs;unfold Zy
   simp
  ·have hb':(b==c)=false:=by simpa using hb
   rw[hb']at h;simp only[Oa,Ol]at h;split at h
   ·omega
   ·rename_i g;have g':Lib.indexByte l c≠-1:=by simpa using g
    have hg:=kB c l;obtain ⟨j,rfl⟩:∃ j,i=j+1:=⟨i-1,by omega⟩;have hj:Lib.indexByte l c=(j:Int):=by omega
    obtain ⟨h1,h2⟩:=x0 c l j hj;refine ⟨by simp;omega,?_⟩
    conv=>lhs;unfold Zy
    rw[if_neg hb,h2];simp
theorem vK (c:UInt8) (l:Lz):(Zy c l).length<=l.length+1:=by
 induction l with
 | nil=>simp[Zy]
 | cons b l ih =>
  unfold Zy;split
  ·simp;omega
  ·split
   ·simp
   ·rename_i x r h;rw[h]at ih;simp at ih ⊢;omega
theorem zdk (c:UInt8) (l:Lz):Fun Tryz.prog G0 192 [.str l,.str [c]] (.sc (.int .i64 (Lib.indexByte l c))) 0:=by
 refine Fun.wrap (by kernel_rfl) fun R vs h=>?_;obtain ⟨v1,us1,rfl,h1,h⟩:=zg.1 h;obtain ⟨v2,us2,rfl,h2,h⟩:=zg.1 h;rw[zm]at h;subst h;rw[qc]at h1 h2;subst h1 h2;refine (Tryz.strings_Index_one ⟨l.toArray⟩ c R.w).mono ?_;rintro e w' ⟨rfl,rfl⟩;exact ⟨_,rfl,Ob _ _,fun R' _=>zp.2 (by simp)⟩
theorem xD (c:UInt8) (s:Lz) (hs:s.length<=1000000):yu Tryz.prog G0 190 [] [.ptr 1 0,.ptr 0 0,.ptr 2 0] [[.str s],[.str [c]],[.sc (.int .i64 0)]] (qj (Zy c s)):=by
 refine foI (fun _=>[]) Tryz.func190 ?_;dsimp only[Tryz.f190];intro l sf;push_cast;refine loop (fun x:Lz×Nat=>⟨[(0,.sc (.func (.yield l) #[] #[])),(1,.ptr 1 0),(2,.ptr 0 0),(3,.ptr 2 0)],[[.str x.1],[.str [c]],[.sc (.int .i64 0)]],0,x.2⟩)
  (fun x=>x.1.length<=1000000/\(∃ done,Zy c s=done++Zy c x.1/\done.length=x.2)/\∀ j,j<x.2->sf j=false) (fun x=>x.1.length) (s,0) ⟨hs,⟨[],rfl,rfl⟩,fun j hj=>by omega⟩ ?_ ?_
 ·refine Yc.mk [] rfl rfl (Wd _) rfl ?_ ?_<;>push_cast [ze,zd,CLe,zh]<;>omega
 ·rintro ⟨r,k⟩ hx;simp only at hx ⊢;have hr:=hx.1;have hsf:=hx.2.2;obtain ⟨done,hd,hdl⟩:=hx.2.1;clear hx;push_cast;refine call (zdk c r) ?_;push_cast;by_cases hi:Lib.indexByte r c<0
  ·push_cast [hi];have hk:(qj (Zy c s))[k]?=some [.str r]:=by
    rw[hd,UY c r hi];simp[←hdl]
   rw[hk];push_cast;refine ⟨by push_cast [ze,zd,CLe,zh],hsf,?_⟩;cases hk2:sf k with
   | true=>exact .inr ⟨AZ k,hk2⟩
   | false =>
    refine .inl ⟨?_,fun j (hj:j<k+1)=>?_⟩
    ·rw[hd,UY c r hi];simp[hdl]
    ·rcases Wp j k with g | g
     ·exact hsf j g
     ·rw[show j=k by omega];exact hk2
  ·have hg:=kB c r;obtain ⟨i,hii⟩:∃ i:Nat,Lib.indexByte r c=(i:Int):=⟨(Lib.indexByte r c).toNat,by omega⟩;obtain ⟨hir,hsp⟩:=x0 c r i hii;have hk:(qj (Zy c s))[k]?=some [.str (r.take i)]:=by
    rw[hd,hsp];simp[←hdl]
   rw[hii]at hi ⊢;push_cast [hi];rw[hk];push_cast;refine ⟨by omega,by omega,by push_cast [ze,zd,CLe,zh],hsf,br (fun hk2=>?_) (fun hk2=>?_)⟩
   ·push_cast;exact .inr ⟨AZ k,hk2⟩
   ·push_cast;refine ⟨by omega,by omega,(r.drop (i+1),k+1),⟨by simp;omega,⟨done++[r.take i],by rw[hd,hsp];simp,by simp[hdl]⟩,fun j (hj:j<k+1)=>?_⟩,by simp;omega,Yc.mk [] rfl rfl (Wd _) rfl ?_ ?_⟩
    ·rcases Wp j k with g | g
     ·exact hsf j g
     ·rw[show j=k by omega];exact hk2
    ·push_cast [ze,zd,CLe,zh]
    ·push_cast [ze,zd,CLe,zh]
theorem Nt (c:UInt8) (s:Lz):Zb Tryz.prog G0 161 [.str s,.str [c],.sc (.int .i64 0)] [] 0 (.clo (.func 190) [] [.ptr 1 0,.ptr 0 0,.ptr 2 0]) [[.str s],[.str [c]],[.sc (.int .i64 0)]] 0:=by
 refine foB (fun _=>[]) Tryz.func161 ?_;dsimp only[Tryz.f161];push_cast;exact ⟨[],rfl,rfl,by push_cast [ze,zd,CLe,zh],by push_cast [ze,zd,CLe,zh]⟩
theorem GN (c:UInt8) (s:Lz):Zb Tryz.prog G0 119 [.str s,.str [c]] [] 0 (.clo (.func 190) [] [.ptr 1 0,.ptr 0 0,.ptr 2 0]) [[.str s],[.str [c]],[.sc (.int .i64 0)]] 0:=by
 refine foB (fun _=>[]) Tryz.func119 ?_;dsimp only[Tryz.f119];push_cast;refine Yz [] [] (Nt c s) rfl (by simp) (by simp) (fun i hi=>by cases hi) (by push_cast) rfl ?_;push_cast;exact ⟨[],rfl,rfl,by push_cast [ze,zd,CLe,zh],by push_cast [ze,zd,CLe,zh]⟩
end
section
open CA CB
open Go.RowKit QuotePlain
def XP (l:Lz):Lz:=Lib.trimRightS l [58,44]
theorem zhp (l:Lz):(XP l).length<=l.length:=by
 unfold XP Lib.trimRightS;rw[List.length_reverse];have:=(List.dropWhile_sublist (([58,44]:Lz).contains ·) (l:=l.reverse)).length_le;rw[List.length_reverse]at this;exact this
theorem zij (l:Lz) (h0:l≠[]) (hl:l.length<=1000000):Fun Tryz.prog G0 162 [.str l,.str [58,44]] (.str (XP l)) 0:=by
 refine Fun.wrap (by kernel_rfl) fun R vs h=>?_;obtain ⟨v1,us1,rfl,h1,h⟩:=zg.1 h;obtain ⟨v2,us2,rfl,h2,h⟩:=zg.1 h;rw[zm]at h;subst h;rw[qc]at h1 h2;subst h1 h2;have hpos:=WI.2 h0;refine (Any.strings_TrimRight_set Tryz.lays162 Gb (by kernel_rfl) ⟨l.toArray⟩ ⟨#[58,44]⟩ R.w (by decide) (by simpa [ByteArray.size] using hpos) (by simp[ByteArray.size];omega) (by decide) (fun j b hb=>?_)).mono ?_
 ·match j,hb with
  | 0,hb=>cases hb;decide
  | 1,hb=>cases hb;decide
  | j+2,hb=>simp at hb
 ·rintro e w' ⟨rfl,rfl⟩;exact ⟨_,rfl,((Ob _ _).alloc (Wb _) _).alloc (by simp) _,fun R' _=>qc.2 (by simp[XP])⟩
def ZK (w qa qb m:Lz):Lz:=
 if XP w = [65] then qa++w.drop (XP w).length else if XP w = [66] then qb++w.drop (XP w).length else if XP w = [69] then m++w.drop (XP w).length else w
theorem QV (l:Lz):(jR l).length<=4*l.length+2:=by
 have:=QuoteWalk.mid_len l;simp only[jR,Wr,Wn,OF];omega
theorem zaZ (e:Int):(uq e).length<=100:=by
 have key:∀ (c:Prop) [Decidable c] (x y:Lz),x.length<=100->y.length<=100->(if c then x else y).length<=100:=fun c _ x y hx hy=>by
  by_cases h:c
  ·rw[if_pos h];exact hx
  ·rw[if_neg h];exact hy
 unfold uq
 repeat' (first | decide | refine key _ _ _ (by decide) ?_)
theorem zeR (w a b:Lz) (e:Int) (ha:a.length<=3000) (hb:b.length<=3000):(ZK w (jR a) (jR b) (uq e)).length<=w.length+25000:=by
 have h1:=QV a;have h2:=QV b;have h3:=zaZ e;unfold ZK
 repeat' split
 all_goals (try simp only[Wn,W7]);omega
theorem ziP (w a b:Lz) (e:Int) (h0:w≠[]) (hw:w.length<=1000) (ha:a.length<=3000) (hb:b.length<=3000):Fun Tryz.prog G2 120 [.str w,.str a,.str b,.sc (.int .i64 e)] (.str (ZK w (jR a) (jR b) (uq e))) 0:=by
 have h1:=(zij w h0 (by omega)).glob0 (G':=G2);have h2:=(My a (by omega)).glob0 (G':=G2);have h3:=(My b (by omega)).glob0 (G':=G2);have h4:=ue e;have hl:=zhp w;have l1:=QV a;have l2:=QV b;have l3:=zaZ e;by_cases hA:XP w = [65]
 ·refine fon Tryz.func120 ?_;dsimp only[Tryz.f120];push_cast;refine cl h1 ?_;push_cast
  repeat refine an ?_
  push_cast [hA];refine cl h2 ?_;push_cast
  repeat refine an ?_
  exact ⟨[],rfl,rfl,by push_cast [ze,zd,CLe,zh]<;>simp[ZK,hA]⟩
 ·by_cases hB:XP w = [66]
  ·have hA':¬([66]:Lz) = [65]:=by decide
   refine fon Tryz.func120 ?_;dsimp only[Tryz.f120];push_cast;refine cl h1 ?_;push_cast
   repeat refine an ?_
   push_cast [hB,hA'];refine cl h3 ?_;push_cast
   repeat refine an ?_
   exact ⟨[],rfl,rfl,by push_cast [ze,zd,CLe,zh]<;>simp[ZK,hB]⟩
  ·by_cases hE:XP w = [69]
   ·have hA':¬([69]:Lz) = [65]:=by decide
    have hB':¬([69]:Lz) = [66]:=by decide
    refine fon Tryz.func120 ?_;dsimp only[Tryz.f120];push_cast;refine cl h1 ?_;push_cast
    repeat refine an ?_
    push_cast [hE,hA',hB'];refine cl h4 ?_;push_cast
    repeat refine an ?_
    exact ⟨[],rfl,rfl,by push_cast [ze,zd,CLe,zh]<;>simp[ZK,hE]⟩
   ·refine fon Tryz.func120 ?_;dsimp only[Tryz.f120];push_cast;refine cl h1 ?_;push_cast
    repeat refine an ?_
    push_cast [hA,hB,hE];exact ⟨[],rfl,rfl,by push_cast [ze,zd,CLe,zh]<;>simp[ZK,hA,hB,hE]⟩
theorem zkH (xs:List Lz) (hx:xs.length<=1000001) (hl:(Lib.join xs [58,32]).length<=100000000):Fun Tryz.prog G0 121 [.sl 1 (qj xs)] (.str (Lib.join xs [58,32])) 0:=by
 refine fon Tryz.func121 ?_;dsimp only[Tryz.f121];push_cast;refine cl (Na xs [58,32] hx hl) ?_;push_cast;exact dn
end
section
open CA CB
open Go.RowKit QuotePlain
abbrev Atm:=Nat ⊕ UInt8
def zsX (w:Lz):List Atm:=
 if XP w = [65] then .inl 0 :: (w.drop (XP w).length).map .inr else if XP w = [66] then .inl 1 :: (w.drop (XP w).length).map .inr else if XP w = [69] then .inl 2 :: (w.drop (XP w).length).map .inr else w.map .inr
def vA (qa qb m:Lz):Atm->Lz
 | .inl 0=>qa
 | .inl 1=>qb
 | .inl _=>m
 | .inr b=>[b]
def flA (qa qb m:Lz):List Atm->Lz
 | []=>[]
 | [a]=>vA qa qb m a
 | a :: b :: r=>vA qa qb m a++flA qa qb m (b :: r)
theorem X1 (qa qb m:Lz):∀ l:List Atm,flA qa qb m l=l.flatMap (vA qa qb m)
 | []=>rfl
 | [a]=>by simp[flA]
 | a :: b :: r=>by rw[flA,X1 qa qb m (b :: r)];rfl
def zeJ (k:Int):List Atm:=List.intercalate [.inr 32] ((Zy 32 (jh k)).map zsX)
def zrF (k:Int) (qa qb m:Lz):Lz:=flA qa qb m (zeJ k)
theorem zk5 (qa qb m l:Lz):flA qa qb m (l.map .inr)=l:=by
 rw[X1]
 induction l with
 | nil=>rfl
 | cons b r ih=>exact Wv (b :: ·) ih
theorem NM (qa qb m:Lz) (a:Atm) (l:List Atm):flA qa qb m (a :: l)=vA qa qb m a++flA qa qb m l:=by rw[X1,X1];rfl
theorem ziE (w qa qb m:Lz):ZK w qa qb m=flA qa qb m (zsX w):=by
 have h:=fun l=>zk5 qa qb m l;unfold ZK zsX;split
 ·rw[NM,h];rfl
 ·split
  ·rw[NM,h];rfl
  ·split
   ·rw[NM,h];rfl
   ·rw[h]
theorem zhd (qa qb m:Lz) (a b:List Atm):flA qa qb m (a++b)=flA qa qb m a++flA qa qb m b:=by rw[X1,X1,X1];exact AK
theorem zaS (qa qb m:Lz):∀ ws:List (List Atm),flA qa qb m (List.intercalate [.inr 32] ws)=List.intercalate [32] (ws.map (flA qa qb m))
 | []=>rfl
 | [w]=>by simp[List.intercalate,List.intersperse]
 | w :: v :: r=>by
  have ih:=zaS qa qb m (v :: r);have e1:List.intercalate [(.inr 32:Atm)] (w :: v :: r)=w++([.inr 32]++List.intercalate [.inr 32] (v :: r)):=by simp[List.intercalate,List.intersperse]
  have e2:List.intercalate [(32:UInt8)] ((w :: v :: r).map (flA qa qb m))=flA qa qb m w++([32]++List.intercalate [32] ((v :: r).map (flA qa qb m))):=by simp[List.intercalate,List.intersperse]
  rw[e1,e2,zhd,zhd,ih]
  rfl
theorem ziV (k:Int) (qa qb m:Lz):Lib.join ((Zy 32 (jh k)).map fun w=>ZK w qa qb m) [32]=zrF k qa qb m:=by
 unfold zrF zeJ;rw[zaS,List.map_map];show List.intercalate [32] _=_;congr 1;exact AJ fun w _=>ziE w qa qb m
theorem ut (k:Int) (h:¬(1<=k/\k<=22)):jh k = []:=by
 have n1:¬k=1:=by omega
 have n2:¬k=2:=by omega
 have n3:¬k=3:=by omega
 have n4:¬k=4:=by omega
 have n5:¬k=5:=by omega
 have n6:¬k=6:=by omega
 have n7:¬k=7:=by omega
 have n8:¬k=8:=by omega
 have n9:¬k=9:=by omega
 have n10:¬k=10:=by omega
 have n11:¬k=11:=by omega
 have n12:¬k=12:=by omega
 have n13:¬k=13:=by omega
 have n14:¬k=14:=by omega
 have n15:¬k=15:=by omega
 have n16:¬k=16:=by omega
 have n17:¬k=17:=by omega
 have n18:¬k=18:=by omega
 have n19:¬k=19:=by omega
 have n20:¬k=20:=by omega
 have n21:¬k=21:=by omega
 have n22:¬k=22:=by omega
 simp only[jh,n1,n2,n3,n4,n5,n6,n7,n8,n9,n10,n11,n12,n13,n14,n15,n16,n17,n18,n19,n20,n21,n22,Ol]
theorem MC (k:Int):jh k = []∨((∀ x∈Zy 32 (jh k),x≠[]/\x.length<=100)/\(jh k).length<=100):=by
 by_cases h:1<=k/\k<=22
 ·refine .inr ?_;have hc:k=1∨k=2∨k=3∨k=4∨k=5∨k=6∨k=7∨k=8∨k=9∨k=10∨k=11∨k=12∨k=13∨k=14∨k=15∨k=16∨k=17∨k=18∨k=19∨k=20∨k=21∨k=22:=by omega
  clear h;rcases hc with rfl | rfl | rfl | rfl | rfl | rfl | rfl | rfl | rfl | rfl | rfl | rfl | rfl | rfl | rfl | rfl | rfl | rfl | rfl | rfl | rfl | rfl<;>exact ⟨by decide +kernel,by decide +kernel⟩
 ·exact .inl (ut k h)
theorem xb (f:Lz->Lz) (n:Nat):∀ xs:List Lz,(∀ x∈xs,(f x).length<=n)->((xs.map f).map fun x=>x.length+1).sum<=xs.length*(n+1)
 | [],_=>by simp
 | x :: r,h=>by
  have ih:=xb f n r fun y hy=>h y (Wk _ hy);have:=h x Wj;simp only[WC,OO,Wr,On];omega
theorem zdn (xs:List Lz) (sep:Lz) (n:Nat) (hs:sep.length<=1) (h:(xs.map fun x=>x.length+1).sum<=n):(Lib.join xs sep).length<=n:=by
 have key:∀ xs:List Lz,(Lib.join xs sep).length<=(xs.map fun x=>x.length+1).sum:=by
  intro xs
  match xs with
  | []=>simp[Lib.join]
  | [x]=>simp[Lib.join_one]
  | x :: y :: r =>
   have ih:∀ (zs:List Lz) (z:Lz),(Lib.join (z :: zs) sep).length<=((z :: zs).map fun x=>x.length+1).sum:=by
    intro zs
    induction zs with
    | nil=>intro z;simp[Lib.join_one]
    | cons u t iht =>
     intro z;rw[j6];have:=iht u;simp only[Wn,WC,OO]at this ⊢;omega
   exact ih (y :: r) x
 exact WN (key xs) h
def JU (k w:Int) (a b:Lz) (e:Int):Lz:=
 if HQ k = [] then [] else if jh w = [] then [] else HQ k++[58,32]++zrF w (jR a) (jR b) (uq e)
theorem zhr (k:Int):(HQ k).length<=10:=by
 have key:∀ (c:Prop) [Decidable c] (x y:Lz),x.length<=10->y.length<=10->(if c then x else y).length<=10:=fun c _ x y hx hy=>by
  by_cases h:c
  ·rw[if_pos h];exact hx
  ·rw[if_neg h];exact hy
 unfold HQ
 repeat' (first | decide | refine key _ _ _ (by decide) ?_)
theorem zkf (k w:Int) (a b:Lz) (e:Int) (ha:a.length<=3000) (hb:b.length<=3000):Fun Tryz.prog G2 71 [.sc (.int .i64 k),.sc (.int .i64 w),.str a,.str b,.sc (.int .i64 e)] (.str (JU k w a b e)) 0:=by
 have h1:=Mf k;have h2:=zc8 w;have hnl:=zhr k;by_cases hn:HQ k = []
 ·rw[hn]at h1;refine fon Tryz.func71 ?_;dsimp only[Tryz.f71];push_cast;refine cl h1 ?_;push_cast;refine cl h2 ?_;push_cast;exact ⟨[],rfl,rfl,by push_cast [ze,zd,CLe,zh]<;>simp[JU,hn]⟩
 by_cases hp:jh w = []
 ·rw[hp]at h2;refine fon Tryz.func71 ?_;dsimp only[Tryz.f71];push_cast;refine cl h1 ?_;push_cast;refine cl h2 ?_;push_cast [hn];exact ⟨[],rfl,rfl,by push_cast [ze,zd,CLe,zh]<;>simp[JU,hn,hp]⟩
 obtain ⟨hws,hpl⟩:(∀ x∈Zy 32 (jh w),x≠[]/\x.length<=100)/\(jh w).length<=100:=(MC w).resolve_left hp;have hpw:=hp;have hsay:=ziV w (jR a) (jR b) (uq e);have hsl:=vK 32 (jh w);have hsum:=xb (fun x=>ZK x (jR a) (jR b) (uq e)) 25100 (Zy 32 (jh w)) fun x hx=>by
  have:=zeR x a b e ha hb;have:=(hws x hx).2;omega
 have hjl:=zdn ((Zy 32 (jh w)).map fun x=>ZK x (jR a) (jR b) (uq e)) [32] 3000000 (by decide) (by
  have:(Zy 32 (jh w)).length*(25100+1)<=101*25101:=WM _ (by omega);omega)
 have hit:=xD 32 (jh w) (by omega);generalize jh w=P at h2 hp hws hpl hsay hsl hsum hjl hit;rw[hsay]at hjl;refine fof (fun i=>if i=7 then [false,false,false,false,false,false,false,true,true] else []) Tryz.func71 ?_;dsimp only[Tryz.f71];push_cast;refine cl h1 ?_;push_cast;refine cl h2 ?_;push_cast [hn,hp];refine Yz [] [] ((GN 32 P).glob0) rfl (by simp) (by simp) (fun i hi=>by cases hi) (by push_cast) rfl ?_;push_cast;refine range (qj (Zy 32 P)) (fun _=>false) 4 (fun j=>⟨[],[[.str a],[.str b],[.sc (.int .i64 e)],[.own 0 9 1 (qj (((Zy 32 P).take j).map fun x=>ZK x (jR a) (jR b) (uq e)))]],1,0⟩) hit.glob0 (by push_cast) (by push_cast) (by push_cast) (Wd _) (by push_cast) (fun it h=>?_) (fun j _=>rfl) ?_ (fun j it hj hsf=>?_) (fun hsf=>?_)
 ·obtain ⟨x,_,rfl⟩:=WQ.1 h;rfl
 ·exact wks [.inr (9,1)]
 ·obtain ⟨x,hx,rfl⟩:=QL hj;have hjl2:j<(Zy 32 P).length:=(Wc.1 hx).1;have hxw:=hws x (Wf hx);have hs1:=ziP x a b e hxw.1 (by omega) ha hb;push_cast;refine cl hs1 ?_;push_cast
  repeat refine an ?_
  refine Yc.mk [.inl 0] rfl rfl (Wb _) rfl (by push_cast [ze,zd,CLe,zh]) ?_;push_cast [ze,zd,CLe,zh];rw[WZ,hx];simp
 ·have htk:(Zy 32 P).take (Zy 32 P).length=Zy 32 P:=Oi;have j1:=((Na ((Zy 32 P).map fun x=>ZK x (jR a) (jR b) (uq e)) [32] (by rw[We];omega) (by rw[hsay];omega)).res (Wv C.str hsay)).glob0 (G':=G2);have j2:=((zkH [HQ k,zrF w (jR a) (jR b) (uq e)] (by simp) (by rw[j6,Lib.join_one];simp only[Wn,Wr,OF];omega)).res (Wv C.str (show _=JU k w a b e by rw[j6,Lib.join_one,JU,if_neg hn,if_neg hpw]))).glob0 (G':=G2);push_cast [htk];refine cl j1 ?_;push_cast;refine cl j2 ?_;push_cast;exact dn
end
section
open CA CB
open Go.RowKit QuotePlain
end
section
open CA CB
open Go.RowKit
def GD:zq:=fun g=>if g=3 then G1 g else G2 g
theorem ztC (g:Nat) (cs:List C) (h:G1 g=some cs):GD g=some cs:=by
 unfold GD;by_cases hg:g=3
 ·rw[if_pos hg];exact h
 ·unfold G1 at h;rw[if_neg hg]at h;cases h
theorem zty (g:Nat) (cs:List C) (h:G2 g=some cs):GD g=some cs:=by
 unfold GD;by_cases hg:g=3
 ·subst hg;have q:G2 3=none:=rfl;rw[q]at h;cases h
 ·rw[if_neg hg];exact h
theorem Fun.gd1 {f:FuncId} {r:C} {n:Nat} (h:Fun Tryz.prog G1 f args r n):Fun Tryz.prog GD f args r n:=h.glob ztC
theorem Fun.gd2 {f:FuncId} {r:C} {n:Nat} (h:Fun Tryz.prog G2 f args r n):Fun Tryz.prog GD f args r n:=h.glob zty
abbrev zrK (d:zF) (ops diags:C):C:=.agg [.sc (.int .i64 d.w.fs.maxI),.sc (.int .i64 d.w.fs.maxB),.sc (.int .i64 d.w.fs.next),.sl 6 (zt d.w.fs.xs),.sl 4 (zJ d.w.kept),.sl 6 (zt d.w.pool),ops,diags,.sc (.int .i64 d.status),.sc (.int .i64 d.slot)]
structure zaH (d:zF):Prop where
 wi:Q9 d.w
 ws:zaT d.w
 ops:d.ops.length<=80000
 diags:d.diags.length<=80000
 slot:0<=d.slot/\d.slot<=4000000000000000000
theorem zlu (o:OpV):opL o = [.sc (.int .i64 o.kind),.sc (.int .i64 o.slot),.str o.a,.str o.b,.str o.d]:=rfl
abbrev zmc:List C:=[.any,.any,.any,.any,.any]
abbrev zmy:List C:=[.any,.any,.any,.any,.any,.any]
abbrev QA:List C:=[.any,.any,.any,.any,.any,.any,.any,.any,.any,.any]
theorem zp4 (d:zF) (hd:zaH d) (o:OpV) (ho:Vs o) (hl:o.d.length<=10000) (hne:(jP d o).2=0):Xe Tryz.prog GD 75 [HE d,.agg (opL o)] [] 0 (fun r bx n=>n=0/\∃ c B,zoI 5 c ((jP d o).1.ops.map opL) B/\r = .tup [zrK (jP d o).1 (.bs 4 0 5 (jP d o).1.ops.length c) (.sl 1 (qj (jP d o).1.diags)),.sc (.int .i64 0)]/\bx = [QA,zmc,QA,zmy,B]):=by
 obtain ⟨k,s,a,b,t⟩:=o;have hsl:=Md (G:=GD) ⟨k,0,a,b,t⟩;have hb1:=hd.slot.1;have hb2:=hd.slot.2;have hopl:(d.ops.map opL).length=d.ops.length:=We ..;have hol:=hd.ops;have hka:∀ r∈d.ops.map opL,r.length=5:=fun r hr=>by obtain ⟨x,_,rfl⟩:=WQ.1 hr;rfl
 have hsa:jA (d.ops.map opL):=fun r hr=>by obtain ⟨x,_,rfl⟩:=WQ.1 hr;rfl
 have hkb:∀ v:Int,∀ r∈[opL ⟨k,v,a,b,t⟩],r.length=5:=fun v r hr=>by rw[WT.1 hr];rfl
 have hsb:∀ v:Int,jA [opL ⟨k,v,a,b,t⟩]:=fun v r hr=>by rw[WT.1 hr];rfl
 have hcc:=fun v:Int=>zfF (G:=GD) (d.ops.map opL) [opL ⟨k,v,a,b,t⟩] hka (hkb v) hsa (hsb v) (by omega) (by simp) (by simp);by_cases hk:k=3∨k=7
 ·have e:X4 d ⟨k,s,a,b,t⟩=⟨k,d.slot+1,a,b,t⟩:=by unfold X4;rw[if_pos hk]
  rw[Wl hk]at hsl;have hk7:(7<k)=False:=WG (by omega);have hdo:=(zlm d.w hd.wi hd.ws ⟨k,d.slot+1,a,b,t⟩ ho hl (show k<=7 by omega)).gd1;have ea:jP d ⟨k,s,a,b,t⟩=if (doV d.w ⟨k,d.slot+1,a,b,t⟩).2≠0 then (d,(doV d.w ⟨k,d.slot+1,a,b,t⟩).2) else (⟨(doV d.w ⟨k,d.slot+1,a,b,t⟩).1,d.ops++[⟨k,d.slot+1,a,b,t⟩],d.diags,d.status,if 0<d.slot+1 then d.slot+1 else d.slot⟩,0):=by
   unfold jP;rw[if_neg (show ¬7<k by omega),e]
  by_cases hz:(doV d.w ⟨k,d.slot+1,a,b,t⟩).2=0
  ·rw[ea,if_neg (fun h=>h hz),if_pos (show 0<d.slot+1 by omega)];rw[hz]at hdo;have hmx:(if d.slot+1>d.slot then d.slot+1 else d.slot)=d.slot+1:=if_pos (by omega);have hc:=hcc (d.slot+1);unfold opL at hsl hdo ⊢;rw[zlu]at hc;refine foX (fun _=>[]) Tryz.func75 ?_;dsimp only[Tryz.f75];push_cast;refine cl hsl ?_;push_cast
   repeat refine an ?_
   push_cast [hk7];refine cl hdo ?_;push_cast;refine jU [] [] hc rfl (by decide) (by decide) (by simp) (by push_cast) (by push_cast) (fun r bx' m hp=>?_);obtain ⟨rfl,c,B,hB,rfl,rfl⟩:=hp;have hre:∀ fp fo,C.reL fp fo B=B:=fun fp fo=>zC hB.stay;push_cast [hre,hmx];exact ⟨_,[QA,zmc,QA,zmy,B],0,⟨⟨rfl,c,B,by rw[W5];exact hB,rfl,rfl⟩,Wd _⟩,[],rfl,rfl,by (push_cast [ze,zd,CLe,zh];exact zS hB.stay),by push_cast [ze,zd,CLe,zh,Wn,We]⟩
  ·rw[ea,if_pos hz]at hne;exact absurd hne hz
 ·have e:X4 d ⟨k,s,a,b,t⟩=⟨k,0,a,b,t⟩:=by unfold X4;rw[if_neg hk]
  rw[Wi hk]at hsl;by_cases hk7:7<k
  ·have ea:jP d ⟨k,s,a,b,t⟩=(d,12):=by unfold jP;rw[if_pos hk7]
   rw[ea]at hne;exact absurd hne (show ¬(12:Int)=0 by decide)
  ·have hdo:=(zlm d.w hd.wi hd.ws ⟨k,0,a,b,t⟩ ho hl (show k<=7 by omega)).gd1;have ea:jP d ⟨k,s,a,b,t⟩=if (doV d.w ⟨k,0,a,b,t⟩).2≠0 then (d,(doV d.w ⟨k,0,a,b,t⟩).2) else (⟨(doV d.w ⟨k,0,a,b,t⟩).1,d.ops++[⟨k,0,a,b,t⟩],d.diags,d.status,if (0:Int)<0 then 0 else d.slot⟩,0):=by
    unfold jP;rw[if_neg hk7,e]
   by_cases hz:(doV d.w ⟨k,0,a,b,t⟩).2=0
   ·rw[ea,if_neg (fun h=>h hz),if_neg (show ¬(0:Int)<0 by omega)];rw[hz]at hdo;have hmx:(if 0>d.slot then 0 else d.slot)=d.slot:=if_neg (by omega);have hk7':=WG hk7;have hc:=hcc 0;unfold opL at hsl hdo ⊢;rw[zlu]at hc;refine foX (fun _=>[]) Tryz.func75 ?_;dsimp only[Tryz.f75];push_cast;refine cl hsl ?_;push_cast [hk7'];refine cl hdo ?_;push_cast;refine jU [] [] hc rfl (by decide) (by decide) (by simp) (by push_cast) (by push_cast) (fun r bx' m hp=>?_);obtain ⟨rfl,c,B,hB,rfl,rfl⟩:=hp;have hre:∀ fp fo,C.reL fp fo B=B:=fun fp fo=>zC hB.stay;push_cast [hre,hmx];exact ⟨_,[QA,zmc,QA,zmy,B],0,⟨⟨rfl,c,B,by rw[W5];exact hB,rfl,rfl⟩,Wd _⟩,[],rfl,rfl,by (push_cast [ze,zd,CLe,zh];exact zS hB.stay),by push_cast [ze,zd,CLe,zh,Wn,We]⟩
   ·rw[ea,if_pos hz]at hne;exact absurd hne hz
theorem zjr {o:OpV} (h:(jP d o).2=0):(jP d o).1.ops=d.ops++[X4 d o]:=by
 unfold jP at h ⊢;split at h
 ·cases h
 ·rw[if_neg (by assumption)];split at h
  ·rename_i h1 h2;exact absurd h h2
  ·rw[if_neg (by assumption)]
theorem zku (d:zF) (hd:zaH d) (o:OpV) (ho:Vs o) (hl:o.d.length<=10000) (hne:(jP d o).2=0):Fun Tryz.prog GD 75 [HE d,.agg (opL o)] (.tup [zrK (jP d o).1 (.own 0 79 5 ((jP d o).1.ops.map opL)) (.sl 1 (qj (jP d o).1.diags)),.sc (.int .i64 0)]) 1:=
 (zp4 d hd o ho hl hne).fun (by
  rintro r bx m ⟨rfl,c,B,hB,rfl,rfl⟩;exact ⟨[(4,79,5,(jP d o).1.ops.map opL,c)],[.inl 0],hB.ok rfl (by rw[zjr hne];simp) (fun r hr=>by obtain ⟨x,_,rfl⟩:=WQ.1 hr;rfl),rfl,rfl,by push_cast [ze,zd,CLe,zh,We]⟩)
def JL (d:zF) (x:Lz):zF:={ d with diags:=d.diags++[x],status:=1 }
theorem zlW (d:zF) (hd:d.diags.length<=80000) (k w:Int) (a b:Lz) (e:Int) (ha:a.length<=3000) (hb:b.length<=3000) :
  Xe Tryz.prog GD 40 [HE d,.sc (.int .i64 k),.sc (.int .i64 w),.str a,.str b,.sc (.int .i64 e)] [] 0 (fun r bx n=>n=0/\∃ c B,zoI 1 c (qj (JL d (JU k w a b e)).diags) B/\r=zrK (JL d (JU k w a b e)) (.sl 5 (d.ops.map opL)) (.bs 2 0 1 (d.diags.length+1) c)/\bx = [QA,QA,B]):=by
 have ht:=(zkf k w a b e ha hb).gd2;generalize JU k w a b e=x at ht ⊢;have hsl:(qj d.diags).length=d.diags.length:=We ..;have hc:=M8 (G:=GD) (qj d.diags) [[.str x]] (fun r hr=>by obtain ⟨x,_,rfl⟩:=WQ.1 hr;rfl) (fun r hr=>by rw[WT.1 hr];rfl) (fun r hr=>by obtain ⟨x,_,rfl⟩:=WQ.1 hr;rfl) (fun r hr=>by rw[WT.1 hr];rfl) (by omega) (by simp) (by simp);refine foX (fun i=>if i=1 then [false,false,false,false,false,false,false,false,false,false,false,true,false,false,true] else []) Tryz.func40 ?_;dsimp only[Tryz.f40];push_cast;refine cl ht ?_;push_cast;refine jU [] [] hc rfl (by decide) (by decide) (by simp) (by push_cast) (by push_cast) (fun r bx' m hp=>?_);obtain ⟨rfl,c,B,hB,rfl,rfl⟩:=hp;have hre:∀ fp fo,C.reL fp fo B=B:=fun fp fo=>zC hB.stay;push_cast [hre];have hm:qj (JL d x).diags=qj d.diags++[[.str x]]:=W5;exact ⟨_,[QA,QA,B],0,⟨⟨rfl,c,B,by rw[hm];exact hB,rfl,rfl⟩,Wd _⟩,[],rfl,rfl,by (push_cast [ze,zd,CLe,zh];exact zS hB.stay),by push_cast [ze,zd,CLe,zh,JL,Wn,hsl]⟩
theorem zhE (d:zF) (hd:d.diags.length<=80000) (k w:Int) (a b:Lz) (e:Int) (ha:a.length<=3000) (hb:b.length<=3000) :
  Fun Tryz.prog GD 40 [HE d,.sc (.int .i64 k),.sc (.int .i64 w),.str a,.str b,.sc (.int .i64 e)] (zrK (JL d (JU k w a b e)) (.sl 5 (d.ops.map opL)) (.own 0 9 1 (qj (JL d (JU k w a b e)).diags))) 1:=
 (zlW d hd k w a b e ha hb).fun (by
  rintro r bx m ⟨rfl,c,B,hB,rfl,rfl⟩;exact ⟨[(2,9,1,qj (JL d (JU k w a b e)).diags,c)],[.inl 0],hB.ok rfl (by simp[JL]) (fun r hr=>by obtain ⟨x,_,rfl⟩:=WQ.1 hr;rfl),rfl,rfl,by push_cast [ze,zd,CLe,zh,We,Wn,JL]⟩)
end
section
open CA CB
open Go.RowKit
end
section
open Go.RowKit
theorem Ms (a b:List OpV) (ha:a.length<=100000):Fun Tryz.prog G0 32 [.sl 5 (zhJ a),.sl 5 (zhJ b)] (jb (Yj a b)) 0:=by
 by_cases hl:a.length=b.length
 ·refine fon Tryz.func32 ?_;dsimp only[Tryz.f32];push_cast [hl];refine loop (fun k:Nat=>⟨[(0,.sl 5 (zhJ a)),(1,.sl 5 (zhJ b)),(5,.sc (.int .i64 k))],[],0,0⟩) (fun k=>k<=a.length/\∀ (j:Nat) (h:j<a.length) (h':j<b.length),j<k->znt (a[j]'h) (b[j]'h')=true) (fun k=>a.length-k) 0 ⟨Wd _,fun j _ _ hj=>by omega⟩ ?_ ?_
  ·exact wk (by push_cast [ze,zd,CLe,zh,hl])
  ·intro k hk;have hk1:=hk.1;have hk2:=hk.2;by_cases h:k<a.length
   ·have hga:=zdE a k h;have hgb:=zdE b k (by omega);have heq:znt (a[k]'h) (b[k]'(by omega))=znt (a[k]'h) (b[k]'(by omega)):=rfl;simp only[opL]at hga hgb
    conv at heq=>lhs;unfold znt
    cases he:znt (a[k]'h) (b[k]'(by omega)) with
    | true =>
     rw[he]at heq;push_cast [h,hga,hgb,heq]
     repeat refine an ?_
     refine ⟨k+1,⟨by omega,fun j hj hj' hjk=>?_⟩,by omega,wk⟩;rcases Wp j k with g | g
     ·exact hk2 j hj hj' g
     ·have:j=k:=by omega
      subst this;exact he
    | false =>
     rw[he]at heq;push_cast [h,hga,hgb,heq]
     repeat refine an ?_
     refine ⟨[],rfl,rfl,?_⟩;push_cast [ze,zd,CLe,zh];have:¬Yj a b=true:=fun e=>by
      have:=((XY a b).1 e).2 k h (by omega);rw[he]at this;cases this
     simp[this]
   ·push_cast [h];refine ⟨[],rfl,rfl,?_⟩;push_cast [ze,zd,CLe,zh];have:Yj a b=true:=(XY a b).2 ⟨hl,fun j hj hj'=>hk2 j hj hj' (by omega)⟩;simp[this]
 ·refine fon Tryz.func32 ?_;dsimp only[Tryz.f32];push_cast [hl];refine ⟨[],rfl,rfl,?_⟩;push_cast [ze,zd,CLe,zh];have:¬Yj a b=true:=fun e=>hl ((XY a b).1 e).1;simp[this]
end
section
open CA CB
open Go.RowKit
theorem M7 (w:qH) (hk:w.kept.length<=100000) (hs:Qm w.kept):Fun Tryz.prog G0 13 [Xm w] (HE (J7 w)) 0:=by
 have h:=U2 (G:=G0) w hk hs.1 hs.2;refine fof (fun i=>if i=1 then [false,false,false,false,true] else []) Tryz.func13 ?_;dsimp only[Tryz.f13];push_cast;refine cl h ?_;push_cast;exact dn (by push_cast [ze,zd,CLe,zh,J7])
end
section
open CA CB
open Go.RowKit
structure zlf where
 path:Lz
 ino:Int
deriving DecidableEq,Inhabited
abbrev ztd (s:zlf):List C:=[.str s.path,.sc (.int .i64 s.ino)]
abbrev NG (l:List zlf):List (List C):=l.map ztd
def Jp (p n:Lz):Lz:=if p = [47] then p++n else p++[47]++n
def qJ (xs:List zl):Nat->Int->Lz->List zlf
 | 0,_,_=>[]
 | m+1,ino,p=>if zk ino xs then ⟨p,ino⟩ :: (zf ino xs).es.flatMap (fun e=>qJ xs m e.ino (Jp p e.name)) else []
theorem xW (p n:Lz):(Jp p n).length<=p.length+1+n.length:=by
 unfold Jp;split<;>simp<;>omega
theorem uc (xs:List zlf) (i:Nat) (h:i<xs.length):(NG xs)[i]?=some (ztd xs[i]):=by simp[Wy,Wa h]
theorem zfc {α β:Type} {g:α->List β} {l:List α} (h:k<l.length):(l.take (k+1)).flatMap g=(l.take k).flatMap g++g l[k]:=by
 rw[WZ,Wa h,AK];simp
theorem xn {α β:Type} {g:α->List β} {l:List α} (k:Nat):((l.take k).flatMap g).length<=(l.flatMap g).length:=by
 have h:l.flatMap g=(l.take k).flatMap g++(l.drop k).flatMap g:=by rw[←AK,W1]
 rw[h,Wn];omega
section
variable {G:zq}
theorem zd4 (p n:Lz) (h:p.length+n.length<=1000000000):Fun Tryz.prog G 53 [.str p,.str n] (.str (Jp p n)) 0:=by
 refine fon Tryz.func53 ?_;dsimp only[Tryz.f53];by_cases hp:p = [47]
 ·subst hp;have hu:Jp [47] n = [47]++n:=by unfold Jp;rw[if_pos rfl]
  push_cast
  repeat refine an ?_
  exact dn (by push_cast [ze,zd,CLe,zh,hu])
 ·have hu:Jp p n=p++[47]++n:=by unfold Jp;rw[if_neg hp]
  push_cast [hp]
  repeat refine an ?_
  exact dn (by push_cast [ze,zd,CLe,zh,hu])
def zte (xs:List zl):Prop:=xs.length<=10000/\∀ x∈xs,x.data.length<=5000/\x.es.length<=10000/\∀ e∈x.es,e.name.length<=300
theorem U9 (f:FsV) (hf:zte f.xs):∀ (m:Nat) (ino:Int) (p:Lz),m<=10000->p.length+m*301<=4000000->(qJ f.xs m ino p).length<=20000000->Fun Tryz.prog G 26 [.agg (fsC f),.sc (.int .i64 ino),.str p,.sc (.int .i64 ((m:Int)-1))] (.own 0 73 2 (NG (qJ f.xs m ino p))) 1
 | 0,ino,p,hm,hp,hl=>by
  have h40:=hf.1;refine fon Tryz.func26 ?_;dsimp only[Tryz.f26];push_cast;refine cl (Jt f ino (by omega)) ?_;push_cast;cases hh:zk ino f.xs with
  | true =>
   push_cast;exact ⟨[.inr (73,2)],rfl,rfl,by push_cast [ze,zd,CLe,zh,qJ]⟩
  | false =>
   push_cast;exact ⟨[.inr (73,2)],rfl,rfl,by push_cast [ze,zd,CLe,zh,qJ]⟩
 | m+1,ino,p,hm,hp,hl=>by
  have h40:=hf.1;have e1:(((m+1:Nat):Int)-1)=(m:Int):=by omega
  rw[e1];refine fof (fun i=>if i=8 then [false,false,false,false,false,false,false,false,false,false,false,false,false,false,false,false,false,false,false,true] else []) Tryz.func26 ?_;dsimp only[Tryz.f26];push_cast;refine cl (Jt f ino (by omega)) ?_;push_cast;cases hh:zk ino f.xs with
  | false =>
   have hb:qJ f.xs (m+1) ino p = []:=by rw[qJ,hh];rfl
   push_cast;exact ⟨[.inr (73,2)],rfl,rfl,by push_cast [ze,zd,CLe,zh,hb]⟩
  | true =>
   obtain ⟨hm1,hino⟩:=qY hh;have hb:qJ f.xs (m+1) ino p=⟨p,ino⟩ :: (zf ino f.xs).es.flatMap (fun e=>qJ f.xs m e.ino (Jp p e.name)):=by rw[qJ,hh];rfl
   rw[hb]at hl;have hs:=hf.2 _ hm1;have hnm:((m:Int)<0)=False:=WG (by omega);push_cast [hnm];generalize zf ino f.xs=x at hs hb hl;have hle:(zO x.es).length=x.es.length:=We ..;rw[Wr]at hl;refine loop (fun k:Nat=>⟨[(2,.str p),(3,.sc (.int .i64 m)),(4,.ptr 0 0),(9,.ptr 1 0),(11,.own 0 73 2 (NG (⟨p,ino⟩ :: (x.es.take k).flatMap (fun e=>qJ f.xs m e.ino (Jp p e.name))))),(12,.sc (.int .i64 k))],[fsC f,Yw x],1,0⟩) (fun k=>k<=x.es.length) (fun k=>x.es.length-k) 0 (Wd _) ?_ ?_
   ·exact wks [.inl 0] (by push_cast [ze,zd,CLe,zh,Ow,List.flatMap_nil])
   ·intro k hk0;by_cases hk:k<x.es.length
    ·have g1:=Yg x.es k hk;have ht:=zfc (g:=fun e:zN=>qJ f.xs m e.ino (Jp p e.name)) hk;have h1:=xn (g:=fun e:zN=>qJ f.xs m e.ino (Jp p e.name)) (l:=x.es) (k+1);have hn:=hs.2.2 _ (Wz hk);have hul:=xW p x.es[k].name;rw[ht]at h1;rw[Wn]at h1;have hbl:∀ l:List zlf,(NG l).length=l.length:=fun l=>We ..;push_cast [hle,hk,g1]
     repeat refine an ?_
     refine cl (zd4 p x.es[k].name (by omega)) ?_;push_cast
     repeat refine an ?_
     refine cl (U9 f hf m x.es[k].ino (Jp p x.es[k].name) (by omega) (by omega) (by omega)) ?_;push_cast;have hent:=hs.2.1;rw[We,We];refine ⟨by omega,by omega,⟨by omega,by omega⟩,k+1,hk,by omega,wks [.inl 0] (by push_cast [ze,zd,CLe,zh,ht,W5])⟩
    ·push_cast [hle,hk];have hkk:x.es.take k=x.es:=Wg (by omega);rw[hkk];exact ⟨[.inl 0],rfl,rfl,by push_cast [ze,zd,CLe,zh,hb]⟩
end
end
section
open CA CB
open Go.RowKit
def zoE (xs:List zl):Prop:=xs.length<=3240/\∀ x∈xs,x.data.length<=5000/\x.es.length<=3240/\∀ e∈x.es,e.name.length<=300
abbrev JV:=List (List Lz×zl)
structure za5 (f:FsV) (tr:Int->List Lz->JV):Prop where
 has:∀ n ns,zk n f.xs=true->tr n ns=(ns,zf n f.xs) :: (zf n f.xs).es.flatMap fun e=>tr e.ino (ns++[e.name])
 not:∀ n ns,zk n f.xs=false->tr n ns = []
abbrev kX (p:List Lz×zl):List C:=[.str (zH p.1),.agg (Yw p.2)]
def zbE (tr:Int->List Lz->JV) (ns:List Lz) (es:List zN):JV:=es.flatMap fun e=>tr e.ino (ns++[e.name])
def Qp (tr:Int->List Lz->JV) (S:List (List Lz×List zN)):JV:=S.flatMap fun p=>zbE tr p.1 p.2
abbrev lvC (p:List Lz×List zN):List C:=[.sl 1 (qj p.1),.sl 2 (zO p.2)]
def HK (S:List (List Lz×List zN)):List C:=(S.reverse.map lvC).flatten
theorem zon (S:List (List Lz×List zN)):(HK S).length=S.length*2:=by
 unfold HK;rw[qw (k:=2) fun r hr=>by obtain ⟨p,_,rfl⟩:=WQ.1 hr;rfl];simp
theorem zag (p:List Lz×List zN) (S:List (List Lz×List zN)):HK (p :: S)=HK S++lvC p:=by
 unfold HK;simp
def VJ (p:List Lz×zl):Prop:=p.1.length<=1000000/\(Lib.join p.1 [47]).length<=1000000
structure Xh (f:FsV) (tr:Int->List Lz->JV) (IT:List (List C)) (sf:Nat->Bool) (S:List (List Lz×List zN)) (k cap:Nat):Prop where
 rest:IT.drop k=(Qp tr S).map kX
 bound:∀ p∈Qp tr S,VJ p
 le:k<=IT.length
 go:∀ j,j<k->sf j=false
 pos:S.length<=k
 room:S.length<=cap
 roomM:cap<=9223372036854775807
 has:∀ p∈S,p.2.length<=3240/\∀ e∈p.2,zk e.ino f.xs=true
theorem ZM (S:List (List Lz×List zN)):((HK S).all C.stayB)=true:=QY fun r hr=>by
 obtain ⟨p,_,rfl⟩:=WQ.1 hr;rfl
theorem Xh.pop {tr:Int->List Lz->JV} {IT:List (List C)} {sf:Nat->Bool} {S:List (List Lz×List zN)} {cap:Nat} (h:Xh f tr IT sf ((ns,[]) :: S) k cap):Xh f tr IT sf S k cap:=by
 have e:Qp tr ((ns,[]) :: S)=Qp tr S:=by simp[Qp,zbE]
 exact ⟨by rw[←e];exact h.rest,fun p hp=>h.bound p (by rw[e];exact hp),h.le,h.go,by have:=h.pos;rw[Wr]at this;omega,by have:=h.room;rw[Wr]at this;omega,h.roomM,fun p hp=>h.has p (Wk _ hp)⟩
theorem Xh.next {tr:Int->List Lz->JV} {IT:List (List C)} {sf:Nat->Bool} {S:List (List Lz×List zN)} {e:zN} {r:List zN} {cap:Nat} (h:Xh f tr IT sf ((ns,e :: r) :: S) k cap) (ht:za5 f tr) (hf:zoE f.xs) (h3:Y7 f) :
  ∃ y,y=zf e.ino f.xs/\y∈f.xs/\IT[k]?=some (kX (ns++[e.name],y))/\VJ (ns++[e.name],y)/\(sf k=false->(∀ c,S.length+2<=c->c<=9223372036854775807->Xh f tr IT sf ((ns++[e.name],y.es) :: (ns,r) :: S) (k+1) c)/\(y.es = []->Xh f tr IT sf ((ns,r) :: S) (k+1) cap)):=by
 have hh:zk e.ino f.xs=true:=(h.has (ns,e :: r) Wj).2 e Wj;obtain ⟨hm,hi⟩:=qY hh;have hu:=ht.has e.ino (ns++[e.name]) hh;have hrest:Qp tr ((ns,e :: r) :: S)=(ns++[e.name],zf e.ino f.xs) :: Qp tr ((ns++[e.name],(zf e.ino f.xs).es) :: (ns,r) :: S):=by
  simp only[Qp,zbE,O0,hu,W8,WL]
 refine ⟨_,rfl,hm,?_,h.bound _ (by rw[hrest];exact Wj),fun hs=>?_⟩
 ·have:=h.rest;rw[hrest]at this;have:=Wv (·[0]?) this;simpa using this
 ·have hd:IT.drop (k+1)=(Qp tr ((ns++[e.name],(zf e.ino f.xs).es) :: (ns,r) :: S)).map kX:=by
   rw[←Aq,h.rest,hrest];rfl
  have hb:∀ p∈Qp tr ((ns++[e.name],(zf e.ino f.xs).es) :: (ns,r) :: S),VJ p:=fun p hp=>h.bound p (by rw[hrest];exact Wk _ hp);have hkl:k+1<=IT.length:=by
   rcases Wp k IT.length with g | g
   ·exact g
   ·have:=h.rest;rw[AL g,hrest]at this;cases this
  have hgo:∀ j,j<k+1->sf j=false:=fun j hj=>by
   rcases Wp j k with g | g
   ·exact h.go j g
   ·rw[show j=k by omega];exact hs
  have hp:=h.pos;have hro:=h.room;have hrm:=h.roomM;rw[Wr]at hp hro;have h0:=h.has (ns,e :: r) Wj;have hr0:r.length<=3240/\∀ e'∈r,zk e'.ino f.xs=true:=⟨by have:=h0.1;simp at this;omega,fun e' he=>h0.2 e' (Wk _ he)⟩;refine ⟨fun c h1 h2=>⟨hd,hb,hkl,hgo,by simp;omega,by simp;omega,h2,fun p hp=>?_⟩,fun hne=>?_⟩
  ·rcases WJ.1 hp with rfl | hp
   ·exact ⟨(hf.2 _ hm).2.1,fun e' he=>h3 _ hm e' he⟩
   ·rcases WJ.1 hp with rfl | hp
    ·exact hr0
    ·exact h.has p (Wk _ hp)
  ·have hz:Qp tr ((ns++[e.name],(zf e.ino f.xs).es) :: (ns,r) :: S)=Qp tr ((ns,r) :: S):=by rw[hne];simp[Qp,zbE]
   rw[hz]at hd hb;exact ⟨hd,hb,hkl,hgo,by simp;omega,by simp;omega,hrm,fun p hp=>by
    rcases WJ.1 hp with rfl | hp
    ·exact hr0
    ·exact h.has p (Wk _ hp)⟩
theorem zbO (f:FsV) (ino:Int) (ns:List Lz) (tr:Int->List Lz->JV) (ht:za5 f tr) (hf:zoE f.xs) (hR:z6 f.xs) (h3:Y7 f) (h2:∀ x∈f.xs,x.kind≠2->x.es = []) (hl:(tr ino ns).length<=100000000) (hb:∀ p∈tr ino ns,VJ p) :
  yu Tryz.prog G0 226 [] [.row (fsC f),.row [.sc (.int .i64 ino)],.row [.sl 1 (qj ns)]] [] ((tr ino ns).map kX):=by
 have h40:=hf.1;refine foI (fun i=>if i=1000000+278 then [true] else if i=1 then [false,false,false,false,false,false,false,true] else if i=10 then [false,false,false,false,true] else []) Tryz.func226 ?_;dsimp only[Tryz.f226];intro l sf;push_cast;refine cl (qr f ino (by omega) hR) ?_;push_cast;cases hh:zk ino f.xs with
 | false =>
  have hn:=ht.not ino ns hh;push_cast;rw[hn];exact .inl ⟨rfl,fun j hj=>absurd hj (Oe _)⟩
 | true =>
  have hn:=ht.has ino ns hh;have q:VJ (ns,zf ino f.xs):=hb _ (by rw[hn];exact Wj);have h0:((tr ino ns).map kX)[0]?=some (kX (ns,zf ino f.xs)):=by rw[hn];rfl
  obtain ⟨hm,hino⟩:=qY hh;generalize zf ino f.xs=x at hn h0 hm hino;have hITl:((tr ino ns).map kX).length<=100000000:=by rw[We];exact hl
  generalize hIT:(tr ino ns).map kX=IT at h0 hITl;push_cast;refine cl (Qw ns (by have:=q.1;dsimp only at this;omega) (by have:=q.2;dsimp only at this;omega)) ?_;push_cast [h0];refine ⟨by push_cast [ze,zd,CLe,zh],fun j hj=>absurd hj (Oe _),br (fun hs=>?_) (fun hs=>?_)⟩
  ·push_cast;exact .inr ⟨AZ _,hs⟩
  ·push_cast;refine loop (fun p:List (List Lz×List zN)×Nat×Nat=>⟨[(0,.sc (.func (.yield l) #[] #[])),(1,.row (fsC f)),(7,.bs 1 0 2 p.1.length p.2.2)],[[.any,.any,.any,.any,.any,.any],HK p.1++List.replicate ((p.2.2-p.1.length)*2) .any],0,p.2.1⟩) (fun p=>Xh f tr IT sf p.1 p.2.1 p.2.2) (fun p=>2*(IT.length-p.2.1)+p.1.length) ([(ns,x.es)],1,1) ?_ ?_ ?_
   ·have hdr:IT.drop 1=(Qp tr [(ns,x.es)]).map kX:=by
     rw[←hIT,hn];simp[Qp,zbE]
    show Xh f tr IT sf [(ns,x.es)] 1 1;exact ⟨hdr,fun p hp=>hb p (by rw[hn];exact Wk _ (by simpa [Qp,zbE] using hp)),by have:=(Wc.1 h0).1;omega,fun j hj=>by rw[show j=0 by omega];exact hs,Wb _,Wb _,by omega,fun p hp=>by
     rw[WT]at hp;subst hp;exact ⟨(hf.2 x hm).2.1,fun e he=>h3 x hm e he⟩⟩
   ·have hl1:HK [(ns,x.es)] = [.sl 1 (qj ns),.sl 2 (zO x.es)]:=rfl;exact wk (h5:=by push_cast [ze,zd,CLe,zh,hl1])
   ·rintro ⟨S,k,cap⟩ hS;dsimp only at hS ⊢;cases S with
    | nil =>
     push_cast;have hr:=hS.rest;have he:IT.length<=k:=by
      rcases Wp k IT.length with g | g
      ·have:=Wv List.length hr;simp[Qp]at this;omega
      ·exact g
     exact .inl ⟨by have:=hS.le;omega,hS.go⟩
    | cons p S' =>
     obtain ⟨ns1,es1⟩:=p;have hL:=zon S';have hd0:∀ X,(HK S'++X).drop (S'.length*2)=X:=fun X=>List.drop_left' hL;have hd1:∀ X,(HK S'++X).drop (S'.length*2+1)=X.drop 1:=fun X=>by rw[←Aq,hd0]
     have hd2:∀ X,(HK S'++X).drop (S'.length*2+2)=X.drop 2:=fun X=>by rw[←Aq,hd0]
     have ht0:∀ X,(HK S'++X).take (S'.length*2)=HK S':=fun X=>OE hL;have ht1:∀ X,(HK S'++X).take (S'.length*2+1)=HK S'++X.take 1:=fun X=>by
      rw[AD,Wg (by omega),hL];congr 2;omega
     have hpos:((0:Int)<(S'.length:Int)+1)=True:=eq_true (by omega);have hroom:=hS.room;have hroomM:=hS.roomM;rw[Wr]at hroom;have hlc:(((S'.length:Int)+1-1)=(S'.length:Int)):=by omega
     push_cast [zag,hlc,hpos]
     repeat refine an ?_
     generalize hpad:List.replicate ((cap-(S'.length+1))*2) C.any=pad;have hps:(pad.all C.stayB)=true:=by rw[←hpad];simp[OG,C.stayB]
     have hst1:((HK S'++(lvC (ns1,es1)++pad)).all C.stayB)=true:=by rw[OV,ZM,OV,hps];rfl
     have hpl:pad.length=(cap-(S'.length+1))*2:=by rw[←hpad];simp
     refine loop (fun p:List zN×Nat=>⟨[(0,.sc (.func (.yield l) #[] #[])),(1,.row (fsC f)),(7,.bs 1 0 2 (S'.length+1) cap),(8,.ptr 1 (S'.length*2))],[[.any,.any,.any,.any,.any,.any],HK S'++([.sl 1 (qj ns1),.sl 2 (zO p.1)]++pad)],0,p.2⟩) (fun p=>Xh f tr IT sf ((ns1,p.1) :: S') p.2 cap/\2*(IT.length-p.2)<=2*(IT.length-k)) (fun p=>p.1.length) (es1,k) ⟨hS,Wb _⟩ ?_ ?_
     ·exact Yc.mk [] rfl rfl (Wd _) rfl (by push_cast [ze,zd,CLe,zh]) (by push_cast [ze,zd,CLe,zh,WL];exact zS hst1)
     ·rintro ⟨es,k1⟩ ⟨hT,hkk⟩;dsimp only at hT hkk ⊢;cases es with
      | nil =>
       push_cast [hd0,hd1,hd2,ht0,ht1,hlc];refine ⟨by omega,by omega,⟨by omega,by omega⟩,(S',k1,cap),hT.pop,by dsimp only;omega,Yc.mk [] rfl rfl (Wd _) rfl (by push_cast [ze,zd,CLe,zh]) ?_⟩;push_cast [ze,zd,CLe,zh];exact zep (zS (ZM S')) (XF (by simp[hpl];omega))
      | cons e r =>
       obtain ⟨y,hy,hym,hk1,hbd,hnext⟩:=hT.next ht hf h3;have hrl:((0:Int)<(r.length:Int)+1)=True:=eq_true (by omega);have hlr:(zO r).length=r.length:=We ..;have hhe:zk e.ino f.xs=true:=(hT.has (ns1,e :: r) Wj).2 e Wj;have hgy:zf e.ino f.xs=y:=hy.symm;have hb1:ns1.length+1<=1000000:=by have:=hbd.1;simpa using this
       have hb2:(Lib.join (ns1++[e.name]) [47]).length<=1000000:=hbd.2;have hst2:(qj ns1).length=ns1.length:=We ..;push_cast [hd0,hd1,hd2,ht0,ht1,hlc,hlr,hrl,hst2,WL,Oi]
       repeat refine an ?_
       refine cl (qr f e.ino (by omega) hR) ?_;push_cast [hgy,hhe];refine cl (Qw (ns1++[e.name]) (by simp;omega) (by omega)) ?_;push_cast [hk1];refine ⟨by push_cast [ze,zd,CLe,zh],hT.go,br (fun hs1=>?_) (fun hs1=>?_)⟩
       ·push_cast;exact .inr ⟨AZ _,hs1⟩
       ·obtain ⟨w1,w2⟩:=hnext hs1;by_cases k2:y.kind=2
        ·have hSk:=hT.pos;have hkl:=hT.le;rw[Wr]at hSk;have hc1:(HK S'++C.sl 1 (qj ns1) :: C.sl 2 (List.map GP r) :: pad).length=cap*2:=by
          rw[Wn,hL,Wr,Wr,hpl];omega
         have hc2:(HK S'++C.sl 1 (qj ns1) :: C.sl 2 (List.map GP r) :: pad).take ((S'.length+1)*2)=HK S'++[C.sl 1 (qj ns1),C.sl 2 (List.map GP r)]:=by
          rw[AD,Wg (by omega),hL,show (S'.length+1)*2-S'.length*2=2 by omega];rfl
         push_cast [k2];refine zsI (HK S'++[C.sl 1 (qj ns1),C.sl 2 (List.map GP r)]++[C.sl 1 (qj (ns1++[e.name])),C.sl 2 (zO y.es)]) rfl rfl (by decide) rfl (by decide) (Wd _) hc1 hroom hroomM (by omega) (by omega) (by rw[hc2];exact zC (by rw[OV,OV,ZM];rfl)) (fun c' g1 g2=>?_);have hw:=w1 c' (by omega) g2;have hwl:=hw.le;push_cast [k2];refine ⟨((ns1++[e.name],y.es) :: (ns1,r) :: S',k1+1,c'),hw,by simp only[Wr];omega,Yc.mk [] rfl rfl (Wd _) rfl (by push_cast [ze,zd,CLe,zh]) ?_⟩;push_cast [ze,zd,CLe,zh,zag,WL];exact zS (by rw[OV,ZM];simp[OG,C.stayB])
        ·push_cast [k2];have hz:=w2 (h2 y hym k2);have hle:=hz.le;refine ⟨(r,k1+1),⟨hz,by dsimp only;omega⟩,by dsimp only;simp,Yc.mk [] rfl rfl (Wd _) rfl (by push_cast [ze,zd,CLe,zh]) ?_⟩;push_cast [ze,zd,CLe,zh,WL];exact zS (by rw[OV,ZM,AO,AO,hps];rfl)
end
section
open CA CB
open Go.RowKit
structure zf2 (f:FsV) (tr:Int->List Lz->JV):Prop where
 tree:za5 f tr
 few:zoE f.xs
 rise:z6 f.xs
 third:Y7 f
 leaf:∀ x∈f.xs,x.kind≠2->x.es = []
structure vb (tr:Int->List Lz->JV) (ino:Int) (ns:List Lz):Prop where
 len:(tr ino ns).length<=100000000
 bound:∀ p∈tr ino ns,VJ p
abbrev zdF (l:JV):List (List C):=l.map kX
theorem zh7 {l:JV} {it:List C} (h:(zdF l)[k]?=some it):∃ p,l[k]?=some p/\it=kX p:=by
 rw[Wy]at h;cases hq:l[k]? with
 | none=>rw[hq]at h;cases h
 | some x=>rw[hq]at h;cases h;exact ⟨x,rfl,rfl⟩
abbrev zlQ (p:List Lz×zl):zlf:=⟨zH p.1,p.2.ino⟩
theorem zmu {tr:Int->List Lz->JV} {ino:Int} (hw:zf2 f tr) (hs:vb tr ino ns):yu Tryz.prog G0 226 [] [.row (fsC f),.row [.sc (.int .i64 ino)],.row [.sl 1 (qj ns)]] [] (zdF (tr ino ns)):=
 zbO f ino ns tr hw.tree hw.few hw.rise hw.third hw.leaf hs.len hs.bound
theorem zhP (f:FsV) (ino:Int) (ns:List Lz):Fun Tryz.prog G0 183 [.agg (fsC f),.sc (.int .i64 ino),.sl 1 (qj ns)] (.clo (.func 226) [] [.row (fsC f),.row [.sc (.int .i64 ino)],.row [.sl 1 (qj ns)]]) 0:=by
 refine fon Tryz.func183 ?_;dsimp only[Tryz.f183];push_cast;exact dn
theorem zoy (f:FsV):Fun Tryz.prog G0 149 [.agg (fsC f)] (.clo (.func 226) [] [.row (fsC f),.row [.sc (.int .i64 1)],.row [.sl 1 (qj [])]]) 0:=by
 refine fon Tryz.func149 ?_;dsimp only[Tryz.f149];push_cast;refine call (Fun.less (zhP f 1 []) (by push_cast [ze,zd,CLe,zh])) ?_;push_cast;exact dn
def Zq (n:Int) (l:JV):List Lz:=(l.filter fun p=>decide (p.2.ino=n)).map fun p=>zH p.1
def XR (n:Int) (l:JV):Option Lz:=(l.find? fun p=>decide (p.2.ino=n)&&decide (p.2.kind=2)).map fun p=>zH p.1
theorem Hc (f:FsV) (n:Int) (tr:Int->List Lz->JV) (hw:zf2 f tr) (hs:vb tr 1 []) :
  Fun Tryz.prog G0 102 [.agg (fsC f),.sc (.int .i64 n)] (.tup [.str ((XR n (tr 1 [])).getD []),.sc (.bool (XR n (tr 1 [])).isSome)]) 0:=by
 refine fon Tryz.func102 ?_;dsimp only[Tryz.f102];push_cast;refine cl (zoy f) ?_;push_cast;have hl:=hs.len;have hit:=zmu hw hs;generalize tr 1 []=l at hit hl;refine range (zdF l) (fun k=>match l[k]? with | some p=>decide (p.2.ino=n)&&decide (p.2.kind=2) | none=>false) 4 (fun k=>⟨[],[[.any,.any,.any,.any],[.sc (.int .i64 n)],[.any],[.any]],0,0⟩) hit (by push_cast) (by push_cast) (by push_cast) (Wd _) (by push_cast) (fun it h=>?_) (fun k _=>rfl) ?_ (fun k it hk hsf=>?_) (fun hsf=>?_)
 ·obtain ⟨x,_,rfl⟩:=WQ.1 h;rfl
 ·exact wk
 ·obtain ⟨x,hx2,rfl⟩:=zh7 hk;have hfirst:(decide (x.2.ino=n)&&decide (x.2.kind=2))=true->XR n l=some (zH x.1):=fun hb=>by
   obtain ⟨hkl,hxe⟩:=Wc.1 hx2;unfold XR;rw[A4 (b:=x) |>.2 ⟨hb,k,hkl,hxe,fun j hj=>?_⟩]
   ·rfl
   ·have:=hsf j hj;rw[Wa (by omega)]at this;simp only[this];rfl
  by_cases c1:x.2.ino=n
  ·by_cases c2:x.2.kind=2
   ·have hd:=hfirst (by simp[c1,c2]);push_cast [c1,c2];refine ⟨by rw[hx2];simp[c1,c2],⟨[],[[.any,.any,.any,.any],[.sc (.int .i64 n)],[.str (zH x.1)],[.sc (.bool true)]],0,0⟩,rfl,wk,?_⟩;push_cast [hd];exact dn (by push_cast [ze,zd,CLe,zh,hd,W9,AT])
   ·push_cast [c1,c2];refine ⟨by rw[hx2];simp[c2],wk⟩
  ·push_cast [c1];refine ⟨by rw[hx2];simp[c1],wk⟩
 ·have hnone:XR n l=none:=by
   unfold XR;rw[Option.map_eq_none_iff,A8];intro x hx;obtain ⟨k,hk,rfl⟩:=Wx hx;have:=hsf k (by simpa using hk);rw[Wa hk]at this;simpa only[Bool.not_eq_true] using this
  push_cast [hnone];exact dn (by push_cast [ze,zd,CLe,zh,Am,BN])
end
section
inductive Dep (xs:List zl):Nat->Int->Prop
 | root:Dep xs 0 1
 | step {k:Nat} {n:Int} {e:zN}:Dep xs k n->zk n xs=true->e∈(zf n xs).es->Dep xs (k+1) e.ino
def okM (f:FsV):Prop:=zoE f.xs/\JO f=0
theorem okV.m (h:okV f):okM f:=⟨⟨by have:=h.1.1;omega,fun x hx=>by obtain ⟨a,b,c⟩:=h.1.2 x hx;exact ⟨a,by omega,c⟩⟩,h.2⟩
theorem qN (h:okM f):zoE f.xs/\JM f/\Xb f/\Y7 f/\Y9 f/\Zd f/\HU f:=by
 obtain ⟨h0,h⟩:=h;unfold JO at h;refine ⟨h0,?_⟩;split at h
 ·split at h
  ·split at h
   ·split at h
    ·split at h
     ·split at h
      ·exact ⟨by assumption,by assumption,by assumption,by assumption,by assumption,by assumption⟩
      ·cases h
     ·cases h
    ·cases h
   ·cases h
  ·cases h
 ·cases h
theorem NV {es:List zN}:∀ {S:List Int} {n:Int},n∈HF S es↔n∈S∨∃ e∈es,e.ino=n:=by
 induction es with
 | nil=>intro S n;simp[HF]
 | cons e r ih =>
  intro S n;show n∈HF (Y0 S e.ino) r↔_;rw[ih,Gv];constructor
  ·rintro ((h | h) | ⟨e',he,h⟩)
   ·exact .inl h
   ·exact .inr ⟨e,Wj,h.symm⟩
   ·exact .inr ⟨e',Wk _ he,h⟩
  ·rintro (h | ⟨e',he,h⟩)
   ·exact .inl (.inl h)
   ·rcases WJ.1 he with rfl | he
    ·exact .inl (.inr h.symm)
    ·exact .inr ⟨e',he,h⟩
theorem Mg {es:List zN}:∀ {S:List Int},Y5 xs S->(∀ e∈es,zk e.ino xs=true)->Y5 xs (HF S es):=by
 induction es with
 | nil=>intro S h _;exact h
 | cons e r ih=>intro S h he;exact ih (h.one (he e Wj)) fun e' h'=>he e' (Wk _ h')
theorem Nf {xs:List zl} (h3:∀ x∈xs,∀ e∈x.es,zk e.ino xs=true):∀ (m i:Nat) (S:List Int),Y5 xs S->(∀ n∈S,∃ k,Dep xs k n)->Y5 xs (Zo xs m i S)/\∀ n∈Zo xs m i S,∃ k,Dep xs k n
 | 0,i,S,h,hd=>by unfold Zo;exact ⟨h,hd⟩
 | m+1,i,S,h,hd=>by
  unfold Zo;split
  ·rename_i n hn;have hmem:=Wf hn;have hh:=h.has n hmem;obtain ⟨hm,_⟩:=qY hh;obtain ⟨k,hk⟩:=hd n hmem;refine Nf h3 m (i+1) _ (Mg h fun e he=>h3 _ hm e he) fun n' hn'=>?_;rcases NV.1 hn' with h' | ⟨e,he,rfl⟩
   ·exact hd n' h'
   ·exact ⟨k+1,.step hk hh he⟩
  ·exact ⟨h,hd⟩
theorem zeo {S T:List Int} (hS:S.Nodup) (hs:∀ n∈S,n∈T) (hl:T.length<=S.length):∀ n∈T,n∈S:=by
 intro n hn;by_cases h:n∈S
 ·exact h
 ·exfalso
  have:=UJ (S:=n :: S) (T:=T) (OP.2 ⟨h,hS⟩) fun m hm=>by
   rcases WJ.1 hm with rfl | hm
   ·exact hn
   ·exact hs m hm
  rw[Wr]at this;omega
theorem Nl (h:okM f) {n:Int} (hn:zk n f.xs=true):∃ k,Dep f.xs k n:=by
 obtain ⟨_,h1,_,h3,_,h5,_⟩:=qN h;have hroot:Y5 f.xs [1]:=⟨by simp,fun n hn=>by simp at hn;subst hn;exact h1.2.2.2.2.2.2.2.1⟩;obtain ⟨g1,g2⟩:=Nf h3 (f.xs.length+1) 0 [1] hroot fun n hn=>by simp at hn;subst hn;exact ⟨0,.root⟩
 have hS:=zeo (T:=f.xs.map (·.ino)) g1.nodup (fun m hm=>U0.1 (g1.has m hm)) (by rw[We];exact Nat.le_of_eq h5.symm) n (U0.1 hn);exact g2 n hS
theorem ZF {e:zN} (hh:zk n xs=true) (he:e∈(zf n xs).es):(e.ino,n)∈qn xs:=by
 obtain ⟨hm,hi⟩:=qY hh;unfold qn;exact Ag.2 ⟨_,hm,WQ.2 ⟨e,he,by rw[hi]⟩⟩
theorem zmw (h:(n,p)∈l):1<=Zx n l:=by
 unfold Zx;exact WI.2 (List.ne_nil_of_mem (Ox.2 ⟨h,by simp⟩))
theorem y8 {q:Int} (hp:(n,p)∈l) (hq:(n,q)∈l) (h:Zx n l=1):p=q:=by
 unfold Zx at h;obtain ⟨x,hx⟩:=List.length_eq_one_iff.1 h;have h1:(n,p)∈l.filter fun p=>p.1==n:=Ox.2 ⟨hp,by simp⟩;have h2:(n,q)∈l.filter fun p=>p.1==n:=Ox.2 ⟨hq,by simp⟩;rw[hx]at h1 h2;simp only[WT]at h1 h2;exact Wv Prod.snd (h1.trans h2.symm)
theorem Uf (h:okM f) {n:Int} (hh:zk n f.xs=true) {e:zN} (he:e∈(zf n f.xs).es):(zf n f.xs).kind=2:=by
 obtain ⟨_,_,h2,_⟩:=qN h;obtain ⟨hm,_⟩:=qY hh;by_cases hk:(zf n f.xs).kind=2
 ·exact hk
 ·have:=((h2 _ hm).2.1 hk).1;rw[this]at he;cases he
theorem Jn (h:okM f) {n:Int} (hh:zk n f.xs=true) {e:zN} (he:e∈(zf n f.xs).es):e.ino≠1:=fun h1=>by
 obtain ⟨_,hf,_,_,h4,_⟩:=qN h;obtain ⟨hm,hi⟩:=qY hf.2.2.2.2.2.2.2.1;have hq:=(h4 _ hm).2;rw[if_pos hi,hi]at hq;have:=zmw (ZF hh he);rw[h1]at this;omega
theorem VN {f:FsV} (h:okM f):∀ (k k':Nat) (n:Int),Dep f.xs k n->Dep f.xs k' n->zk n f.xs=true->(zf n f.xs).kind=2->k=k'
 | 0,0,_,_,_,_,_=>rfl
 | 0,k'+1,_,h1,h2,hh,hk=>by
  cases h1;generalize hn:(1:Int)=n at h2;cases h2 with
  | step a b c=>exact absurd hn.symm (Jn h b c)
 | k+1,0,_,h1,h2,hh,hk=>by
  cases h2;generalize hn:(1:Int)=n at h1;cases h1 with
  | step a b c=>exact absurd hn.symm (Jn h b c)
 | k+1,k'+1,n,h1,h2,hh,hk=>by
  obtain ⟨_,hf,_,_,h4,_⟩:=qN h;cases h1 with
  | @step _ p e a b c =>
   generalize hn:e.ino=n at h2 hh hk;cases h2 with
   | @step _ p' e' a' b' c' =>
    have hp:=ZF b c;have hp':=ZF b' c';rw[hn]at hp;obtain ⟨hm,hi⟩:=qY hh;have hq:=(h4 _ hm).2;rw[hi]at hq;have hne:e'.ino≠1:=Jn h b' c';rw[if_neg hne]at hq;have:=y8 hp hp' (hq.2 hk).1;subst this;rw[VN h k k' p a a' b (Uf h b c)]
end
section
theorem Qt (n:Int):∀ xs:List zl,Zx n (qn xs)=Yf n xs
 | []=>rfl
 | x :: r=>by
  have ih:=Qt n r;unfold Yf N4 at ih ⊢;unfold qn at ih ⊢;rw[O0,WC,OO,←ih];unfold Zx Yk;rw[O3,Wn];congr 1
  induction x.es with
  | nil=>rfl
  | cons e es ie =>
   unfold VS at ie ⊢;rw[WC,O6,O6];by_cases h:e.ino=n
   ·simp only[h,beq_self_eq_true,if_true,decide_true,Wr,ie]
   ·simp only[show (e.ino==n)=false from OU.2 h,Wi h,Oa,Ol,ie]
theorem Ui (h:JO f=0):JM f/\Xb f/\Y7 f/\Y9 f/\Zd f/\HU f:=by
 unfold JO at h;split at h
 ·split at h
  ·split at h
   ·split at h
    ·split at h
     ·split at h
      ·exact ⟨by assumption,by assumption,by assumption,by assumption,by assumption,by assumption⟩
      ·cases h
     ·cases h
    ·cases h
   ·cases h
  ·cases h
 ·cases h
theorem MB {es:List zN} (h:Xp es):JE es:=by
 have hadj:∀ i (h1:i+1<es.length),Op.bytesLess es[i].name es[i+1].name=true:=fun i h1=>(h (i+1) h1).2.2 (by omega);have key:∀ (d i:Nat) (h1:i+d+1<es.length),Op.bytesLess (es[i]'(by omega)).name es[i+d+1].name=true:=by
  intro d
  induction d with
  | zero=>intro i h1;exact hadj i h1
  | succ d ih=>intro i h1;exact GZ (ih i (by omega)) (hadj (i+d+1) (by omega))
 refine WO.2 fun i j hi hj hij=>?_;have:=key (j-i-1) i (by omega);have e:i+(j-i-1)+1=j:=by omega
 simp only[e]at this;exact this
theorem Qk (h:JO f=0):FsI f:=by
 obtain ⟨h1,h2,h3,h4,h5,h6⟩:=Ui h;obtain ⟨a1,a2,a3,a4,a5,a6,a7,a8,a9⟩:=h1;refine ⟨a7,a6,fun x hx=>(h2 x hx).1,fun x hx=>?_,fun x hx hk=>((h2 x hx).2.1 hk).1,h3,fun x hx=>?_,a8,a9,?_⟩
 ·by_cases hk:x.kind=2
  ·exact MB ((h2 x hx).2.2.1 hk).2
  ·rw[((h2 x hx).2.1 hk).1];exact List.Pairwise.nil
 ·rw[(h4 x hx).1,Qt]
 ·obtain ⟨b1,b2⟩:=qY a8;have q:=(h4 _ b1).2;rw[b2,if_pos rfl,Qt]at q;exact q.1
theorem zsW (h:okW w):Q9 w:=by
 obtain ⟨h1,h2,h3,h4,h5⟩:=h.2;exact ⟨Qk h1,h4.1,h2,fun x hx=>⟨(h3 x hx).1,(h3 x hx).2.2.1⟩⟩
theorem No (h:okW w):MN 40 w:=by
 obtain ⟨⟨g1,g2,g3,g4⟩,h1,_⟩:=h;obtain ⟨a1,a2,a3,a4,a5,_⟩:=(Ui h1).1;exact ⟨g2.1,fun x hx=>by obtain ⟨q1,q2,q3⟩:=g2.2 x hx;exact ⟨q2,q1,q3⟩,g4,g1,g3.1,fun x hx=>by obtain ⟨q1,q2,q3⟩:=g3.2 x hx;exact ⟨q2,q1,q3⟩,by omega,by omega⟩
theorem MN.s (h:MN N w) (hi:Q9 w) (hN:N<=10000):zaT w:=by
 have hr:=vl hi.fs;have hn:=h.next;exact ⟨⟨by have:=h.len;omega,fun x hx=>by obtain ⟨q1,q2,q3⟩:=h.node x hx;exact ⟨by omega,by omega,fun e he=>by have:=q3 e he;omega⟩⟩,⟨by omega,by omega⟩,by have:=h.klen;omega,by have:=h.plen;omega⟩
structure OpS (o:OpV):Prop where
 a:o.a.length<=1000
 b:o.b.length<=1000
 d:o.d.length<=5000
structure Ub (N:Nat) (d:zF):Prop where
 wi:Q9 d.w
 wb:MN (40+N) d.w
 ops:d.ops.length<=N
 diags:d.diags.length<=N
 slot:0<=d.slot/\d.slot<=1073741824+N
theorem Ub.s (h:Ub N d) (hN:N<=9000):zaH d:=
 ⟨h.wi,h.wb.s h.wi (by omega),by have:=h.ops;omega,by have:=h.diags;omega,h.slot.1,by have:=h.slot.2;omega⟩
theorem Ub.up (h:Ub N d):Ub (N+1) d:=⟨h.wi,h.wb.up,by have:=h.ops;omega,by have:=h.diags;omega,h.slot.1,by have:=h.slot.2;omega⟩
theorem MH {o:OpV} (h:(jP d o).2≠0):(jP d o).1=d:=by
 unfold jP at h ⊢;split
 ·rfl
 ·split
  ·rfl
  ·rename_i h1 h2;rw[if_neg h1,if_neg h2]at h;exact absurd rfl h
theorem zoQ (h:Ub N d) {o:OpV} (ho:o.d.length<=5000):Ub (N+1) (jP d o).1:=by
 by_cases hz:(jP d o).2=0
 case neg=>rw[MH hz];exact h.up
 unfold jP at hz ⊢;split at hz
 ·exact absurd hz (show ¬(12:Int)=0 by decide)
 rename_i hk;rw[if_neg hk];split at hz
 ·rename_i hd;exact absurd hz hd
 rename_i hd;rw[if_neg hd];have hs:=h.slot;have hk7:(X4 d o).kind<=7:=by show o.kind<=7;omega
 refine ⟨zr1 h.wi _ hk7,doB h.wi h.wb _ ho hk7,by simp;exact h.ops,by have:=h.diags;simp only;omega,?_⟩;simp only;unfold X4;simp only;split<;>split<;>omega
end
section
theorem ME {f:FsV} (h:okM f):∀ (k:Nat) (n:Int),Dep f.xs k n->zk n f.xs=true->(zf n f.xs).kind=2->∃ L:List Int,L.length=k+1/\L.Nodup/\(∀ m∈L,zk m f.xs=true)/\∀ m∈L,(zf m f.xs).kind=2/\∃ j,j<=k/\Dep f.xs j m
 | 0,n,hd,hh,hk=>⟨[n],rfl,by simp,fun m hm=>by simp at hm;subst hm;exact hh,fun m hm=>by simp at hm;subst hm;exact ⟨hk,0,Wb _,hd⟩⟩
 | k+1,_,hd,hh,hk=>by
  generalize hn:k+1=k1 at hd;cases hd with
  | root=>cases hn
  | @step k0 p e a b c =>
   obtain rfl:k=k0:=by omega
   obtain ⟨L,l1,l2,l3,l4⟩:=ME h k p a b (Uf h b c);refine ⟨e.ino :: L,by simp[l1],OP.2 ⟨fun hm=>?_,l2⟩,fun m hm=>?_,fun m hm=>?_⟩
   ·obtain ⟨_,j,hj,hd⟩:=l4 _ hm;have:=VN h _ _ _ hd (.step a b c) hh hk;omega
   ·rcases WJ.1 hm with rfl | hm
    ·exact hh
    ·exact l3 m hm
   ·rcases WJ.1 hm with rfl | hm
    ·exact ⟨hk,k+1,Wb _,.step a b c⟩
    ·obtain ⟨q1,j,q2,q3⟩:=l4 m hm;exact ⟨q1,j,by omega,q3⟩
theorem zaw (h:okM f) {k:Nat} {n:Int} (hd:Dep f.xs k n) (hh:zk n f.xs=true) (hk:(zf n f.xs).kind=2):k<f.xs.length:=by
 obtain ⟨L,l1,l2,l3,_⟩:=ME h k n hd hh hk;have:=XJ l2 l3;omega
def qX (xs:List zl):Nat->Int->List Lz->JV
 | 0,_,_=>[]
 | m+1,n,ns=>if zk n xs then (ns,zf n xs) :: (zf n xs).es.flatMap (fun e=>qX xs m e.ino (ns++[e.name])) else []
theorem Xj {α β:Type} {l:List α} {g g':α->List β} (h:∀ a∈l,g a=g' a):l.flatMap g=l.flatMap g':=by
 induction l with
 | nil=>rfl
 | cons a r ih=>rw[O0,O0,h a Wj,ih fun b hb=>h b (Wk _ hb)]
theorem xU {f:FsV} (h:okM f):∀ (m m' k:Nat) (n:Int) (ns:List Lz),Dep f.xs k n->k<=f.xs.length->f.xs.length+1<=m+k->f.xs.length+1<=m'+k->qX f.xs m n ns=qX f.xs m' n ns
 | 0,m',k,n,ns,hd,hk,h1,h2=>by omega
 | m+1,0,k,n,ns,hd,hk,h1,h2=>by omega
 | m+1,m'+1,k,n,ns,hd,hk,h1,h2=>by
  unfold qX;split
  ·rename_i hh;congr 1;refine Xj fun e he=>?_;have hdir:=Uf h hh he;have hlt:=zaw h hd hh hdir;exact xU h m m' (k+1) e.ino _ (.step hd hh he) (by omega) (by omega) (by omega)
  ·rfl
abbrev trV (xs:List zl):Int->List Lz->JV:=qX xs (xs.length+1)
theorem zlt (h:okM f) {n:Int} (hh:zk n f.xs=true):∃ k,k<=f.xs.length/\Dep f.xs k n:=by
 obtain ⟨k,hd⟩:=Nl h hh;refine ⟨k,?_,hd⟩;cases hd with
 | root=>exact Wd _
 | step a b c=>exact zaw h a b (Uf h b c)
theorem zm9 (h:okM f):za5 f (trV f.xs):=⟨fun n ns hh=>by
 obtain ⟨k,hk,hd⟩:=zlt h hh;show qX f.xs (f.xs.length+1) n ns=_;rw[qX,if_pos hh];congr 1;refine Xj fun e he=>?_;have hlt:=zaw h hd hh (Uf h hh he);exact xU h _ _ (k+1) e.ino _ (.step hd hh he) (by omega) (by omega) (by omega),fun n ns hh=>by
 show qX f.xs (f.xs.length+1) n ns=_;rw[qX,if_neg (by rw[hh];decide)]⟩
theorem zd7 (h:okM f):zf2 f (trV f.xs):=by
 obtain ⟨p0,p1,p2,p3,_⟩:=qN h;exact ⟨zm9 h,p0,p1.2.2.2.2.2.2.1,p3,fun x hx hk=>((p2 x hx).2.1 hk).1⟩
end
section
theorem YE (ns:List Lz) (x:Lz) (hne:∀ y∈ns,y≠[]):zH (ns++[x])=Jp (zH ns) x:=by
 have hj:=Mb (ns++[x]) ns.length x (by simp);rw[Wg (by simp),OE rfl]at hj;unfold zH;rw[if_neg (by simp),hj];by_cases h:ns = []
 ·subst h;rfl
 ·have hl:ns.length≠0:=fun h0=>h (WV h0);rw[if_neg hl,if_neg h];have hne47:(47 :: Lib.join ns [47])≠[47]:=fun he=>by
   have h1:Lib.join ns [47] = []:=(List.cons.inj he).2;have h2:=QI ns h;rw[h1]at h2;cases ns with
   | nil=>exact h rfl
   | cons y r =>
    have:=WI.2 (hne y Wj);simp at h2;omega
  unfold Jp;rw[if_neg hne47];simp
theorem znD (h:okM f) {n:Int} (hh:zk n f.xs=true) {e:zN} (he:e∈(zf n f.xs).es):e.name≠[]:=fun hn=>by
 obtain ⟨_,_,h2,_⟩:=qN h;obtain ⟨hm,_⟩:=qY hh;obtain ⟨i,hi,rfl⟩:=Wx he;have:=(((h2 _ hm).2.2.1 (Uf h hh (Wz hi))).2 i hi).1;rw[hn]at this;simp[may]at this
theorem VR {f:FsV} (h:okM f):∀ (m:Nat) (n:Int) (ns:List Lz),(∀ y∈ns,y≠[])->qJ f.xs m n (zH ns)=(qX f.xs m n ns).map zlQ
 | 0,n,ns,_=>rfl
 | m+1,n,ns,hne=>by
  unfold qJ qX;split
  ·rename_i hh;obtain ⟨_,hi⟩:=qY hh;rw[WC,List.map_flatMap,show zlQ (ns,zf n f.xs)=⟨zH ns,n⟩ by simp[zlQ,hi]];congr 1;refine Xj fun e he=>?_;have hn:=znD h hh he;rw[←YE ns e.name hne];exact VR h m e.ino _ fun y hy=>by
    rcases WB.1 hy with hy | hy
    ·exact hne y hy
    ·simp at hy;subst hy;exact hn
  ·rfl
end
section
inductive Anc (xs:List zl) (n:Int):Nat->Int->Prop
 | same:Anc xs n 0 n
 | step {j:Nat} {p:Int} {e:zN}:Anc xs n j p->zk p xs=true->e∈(zf p xs).es->Anc xs n (j+1) e.ino
theorem Anc.dep (hd:Dep xs k n):∀ {j:Nat} {d:Int},Anc xs n j d->Dep xs (k+j) d
 | _,_,.same=>hd
 | _,_,.step a b c=>.step (a.dep hd) b c
theorem Anc.up {e:zN} (hh:zk n xs=true) (he:e∈(zf n xs).es):∀ {j:Nat} {d:Int},Anc xs e.ino j d->Anc xs n (j+1) d
 | _,_,.same=>.step .same hh he
 | _,_,.step a b c=>.step (a.up hh he) b c
theorem Yr {xs:List zl}:∀ (m:Nat) (n:Int) (ns:List Lz),∀ p∈qX xs m n ns,∃ j,Anc xs n j p.2.ino/\zk p.2.ino xs=true/\zf p.2.ino xs=p.2
 | 0,n,ns,p,hp=>by cases hp
 | m+1,n,ns,p,hp=>by
  unfold qX at hp;split at hp
  ·rename_i hh;obtain ⟨_,hi⟩:=qY hh;rcases WJ.1 hp with rfl | hp
   ·exact ⟨0,by rw[hi];exact .same,by rw[hi];exact hh,by rw[hi]⟩
   ·obtain ⟨e,he,hp⟩:=Ag.1 hp;obtain ⟨j,q1,q2⟩:=Yr m _ _ p hp;exact ⟨j+1,q1.up hh he,q2⟩
  ·cases hp
theorem zap {f:FsV} (h:okM f) {a b:Int}:∀ (j:Nat) (d:Int),Anc f.xs a j d->Anc f.xs b j d->zk d f.xs=true->(zf d f.xs).kind=2->a=b/\zk a f.xs=true/\(zf a f.xs).kind=2
 | 0,d,h1,h2,hh,hk=>by
  cases h1;cases h2;exact ⟨rfl,hh,hk⟩
 | j+1,d,h1,h2,hh,hk=>by
  obtain ⟨_,_,_,_,h4,_⟩:=qN h;cases h1 with
  | @step _ p e x y z =>
   generalize hn:e.ino=d at h2 hh hk;cases h2 with
   | @step _ p' e' x' y' z' =>
    have hp:=ZF y z;have hp':=ZF y' z';rw[hn]at hp;obtain ⟨hm,hi⟩:=qY hh;have hq:=(h4 _ hm).2;rw[hi,if_neg (Jn h y' z')]at hq;have:=y8 hp hp' (hq.2 hk).1;subst this;exact zap h j p x x' y (Uf h y z)
theorem zm8 {e e':zN} (hh:zk n xs=true) (hs:[e,e'].Sublist (zf n xs).es) (hi:e.ino=e'.ino):2<=Zx e.ino (qn xs):=by
 obtain ⟨hm,hino⟩:=qY hh;have h1:([e,e'].map fun e=>(e.ino,(zf n xs).ino)).Sublist (VS (zf n xs) (zf n xs).es):=hs.map _;obtain ⟨i,hi',hx⟩:=Wx hm;have h2:(VS (zf n xs) (zf n xs).es).Sublist (qn xs):=by
  obtain ⟨s,t,hst⟩:=List.append_of_mem hm;unfold qn
  conv=>rhs;rw[hst]
  rw[AK,O0];exact (List.sublist_append_left _ _).trans (List.sublist_append_right _ _)
 have h3:=((h1.trans h2).filter fun p=>p.1==e.ino).length_le;unfold Zx;simpa [hi] using h3
abbrev Yu (l:JV):List Int:=(l.filter fun p=>decide (p.2.kind=2)).map fun p=>p.2.ino
theorem ZW {l:JV} {d:Int} (h:d∈Yu l):∃ p∈l,p.2.kind=2/\p.2.ino=d:=by
 obtain ⟨p,hp,rfl⟩:=WQ.1 h;obtain ⟨h1,h2⟩:=Ox.1 hp;exact ⟨p,h1,WP h2,rfl⟩
theorem YD {f:FsV} (h:okM f):∀ (m:Nat) (n:Int) (ns:List Lz),zk n f.xs=true->(Yu (qX f.xs m n ns)).Nodup
 | 0,n,ns,_=>Ae
 | m+1,n,ns,hh=>by
  obtain ⟨k,hd⟩:=Nl h hh;obtain ⟨_,_,_,h3,h4,_⟩:=qN h;obtain ⟨hm,hi⟩:=qY hh;have key:∀ L:List zN,L.Sublist (zf n f.xs).es->(Yu (L.flatMap fun e=>qX f.xs m e.ino (ns++[e.name]))).Nodup:=by
   intro L
   induction L with
   | nil=>intro _;exact Ae
   | cons e r ih =>
    intro hs;have he:e∈(zf n f.xs).es:=hs.subset Wj;have hr:r.Sublist (zf n f.xs).es:=(List.sublist_cons_self e r).trans hs;have hap:Yu ((e :: r).flatMap fun e=>qX f.xs m e.ino (ns++[e.name]))=Yu (qX f.xs m e.ino (ns++[e.name]))++Yu (r.flatMap fun e=>qX f.xs m e.ino (ns++[e.name])):=by
     rw[O0];unfold Yu;rw[O3,W5]
    rw[hap,Aa];refine ⟨YD h m e.ino _ (h3 _ hm e he),ih hr,fun d hd1 d' hd2 hdd=>?_⟩;subst hdd;obtain ⟨p,p1,p2,rfl⟩:=ZW hd1;obtain ⟨p',p1',p2',p3'⟩:=ZW hd2;obtain ⟨e',he',p1'⟩:=Ag.1 p1';obtain ⟨j,a1,a2,a3⟩:=Yr m _ _ p p1;obtain ⟨j',b1,b2,b3⟩:=Yr m _ _ p' p1';rw[p3']at b1;have hk:(zf p.2.ino f.xs).kind=2:=by rw[a3];exact p2
    have hdep:=VN h _ _ _ (a1.dep (.step hd hh he)) (b1.dep (.step hd hh (hr.subset he'))) a2 hk;obtain rfl:j=j':=by omega
    obtain ⟨q1,q2,q3⟩:=zap h j _ a1 b1 a2 hk;have hs2:[e,e'].Sublist (zf n f.xs).es:=(List.Sublist.cons_cons e (List.singleton_sublist.2 he')).trans hs;have h2:=zm8 hh hs2 q1;obtain ⟨hm2,hi2⟩:=qY q2;have hq:=(h4 _ hm2).2;rw[hi2,if_neg (Jn h hh he)]at hq;have:=(hq.2 q3).1;omega
  unfold qX;rw[if_pos hh];by_cases hk:(zf n f.xs).kind=2
  ·have hc:Yu ((ns,zf n f.xs) :: (zf n f.xs).es.flatMap fun e=>qX f.xs m e.ino (ns++[e.name]))=n :: Yu ((zf n f.xs).es.flatMap fun e=>qX f.xs m e.ino (ns++[e.name])):=by
    unfold Yu;rw[Oc (by simpa using hk),WC,hi]
   rw[hc,OP];refine ⟨fun hmem=>?_,key _ (List.Sublist.refl _)⟩;obtain ⟨p,p1,p2,p3⟩:=ZW hmem;obtain ⟨e,he,p1⟩:=Ag.1 p1;obtain ⟨j,a1,a2,a3⟩:=Yr m _ _ p p1;rw[p3]at a1;have:=VN h _ _ _ (a1.dep (.step hd hh he)) hd hh hk;omega
  ·have hc:Yu ((ns,zf n f.xs) :: (zf n f.xs).es.flatMap fun e=>qX f.xs m e.ino (ns++[e.name]))=Yu ((zf n f.xs).es.flatMap fun e=>qX f.xs m e.ino (ns++[e.name])):=by
    unfold Yu;rw[ON (by simpa using hk)]
   rw[hc];exact key _ (List.Sublist.refl _)
end
section
def Vq (l:JV):Nat:=(l.map fun p=>p.2.es.length).sum
theorem zfC (a b:JV):Vq (a++b)=Vq a+Vq b:=by unfold Vq;rw[W5,AW]
theorem N0 {xs:List zl}:∀ (m:Nat) (n:Int) (ns:List Lz),(qX xs m n ns).length<=1+Vq (qX xs m n ns)
 | 0,n,ns=>Wd _
 | m+1,n,ns=>by
  unfold qX;split
  ·have key:∀ L:List zN,(L.flatMap fun e=>qX xs m e.ino (ns++[e.name])).length<=L.length+Vq (L.flatMap fun e=>qX xs m e.ino (ns++[e.name])):=by
    intro L
    induction L with
    | nil=>exact Wb _
    | cons e r ih =>
     rw[O0,Wn,zfC,Wr];have:=N0 (xs:=xs) m e.ino (ns++[e.name]);omega
   have:=key (zf n xs).es;have hs:∀ l:JV,Vq ((ns,zf n xs) :: l)=(zf n xs).es.length+Vq l:=fun l=>by unfold Vq;rw[WC,OO]
   rw[Wr,hs];omega
  ·exact Wd _
theorem zhY {l:JV} (h:∀ p∈l,p.2.es.length<=3240/\(p.2.kind≠2->p.2.es = [])):Vq l<=3240*(Yu l).length:=by
 induction l with
 | nil=>exact Wd _
 | cons p r ih =>
  have hp:=h p Wj;have ih:=ih fun q hq=>h q (Wk _ hq);unfold Vq at ih ⊢;rw[WC,OO];unfold Yu at ih ⊢;by_cases hk:p.2.kind=2
  ·rw[Oc (by simpa using hk),WC,Wr];omega
  ·rw[ON (by simpa using hk),hp.2 hk];simpa using ih
theorem za8 (h:okM f) (m:Nat) (n:Int) (ns:List Lz):(qX f.xs m n ns).length<=10497601:=by
 obtain ⟨h0,_,h2,_⟩:=qN h;cases hh:zk n f.xs with
 | false =>
  cases m with
  | zero=>exact Wd _
  | succ m=>unfold qX;rw[hh];exact Wd _
 | true =>
  have h1:=N0 (xs:=f.xs) m n ns;have hg:∀ p∈qX f.xs m n ns,p.2∈f.xs:=fun p hp=>by
   obtain ⟨j,_,q2,q3⟩:=Yr m n ns p hp;rw[←q3];exact (qY q2).1
  have hs:=zhY (l:=qX f.xs m n ns) fun p hp=>⟨(h0.2 _ (hg p hp)).2.1,fun hk=>((h2 _ (hg p hp)).2.1 hk).1⟩;have hd:=XJ (YD h m n ns hh) fun d hd=>by
   obtain ⟨p,p1,_,rfl⟩:=ZW hd;obtain ⟨_,_,q2,_⟩:=Yr m n ns p p1;exact q2
  have:=h0.1;omega
def zhO (ns:List Lz):Nat:=(ns.map fun x=>x.length+1).sum
theorem Mt (ns:List Lz) (x:Lz):zhO (ns++[x])=zhO ns+(x.length+1):=by
 unfold zhO;rw[W5,AW];simp
theorem VO {xs:List zl} (h0:zoE xs):∀ (m:Nat) (n:Int) (ns:List Lz),∀ p∈qX xs m n ns,p.1.length<=ns.length+m/\zhO p.1<=zhO ns+m*301
 | 0,n,ns,p,hp=>by cases hp
 | m+1,n,ns,p,hp=>by
  unfold qX at hp;split at hp
  ·rename_i hh;obtain ⟨hm,_⟩:=qY hh;rcases WJ.1 hp with rfl | hp
   ·exact ⟨BC _ _,BC _ _⟩
   ·obtain ⟨e,he,hp⟩:=Ag.1 hp;obtain ⟨q1,q2⟩:=VO h0 m _ _ p hp;have:=(h0.2 _ hm).2.2 e he;rw[Mt]at q2;rw[Wn,Aj]at q1;exact ⟨by omega,by omega⟩
  ·cases hp
theorem QE (ns:List Lz):(Lib.join ns [47]).length<=zhO ns:=by
 by_cases h:ns = []
 ·subst h;exact Wd _
 ·have:=QI ns h;unfold zhO;omega
theorem uN (h:okM f) (n:Int) (ns:List Lz) (h1:ns.length<=100000) (h2:zhO ns<=20000):vb (trV f.xs) n ns:=by
 obtain ⟨h0,_⟩:=qN h;refine ⟨WN (za8 h _ n ns) (by decide),fun p hp=>?_⟩;obtain ⟨q1,q2⟩:=VO h0 _ n ns p hp;have:=QE p.1;have:=h0.1;exact ⟨by omega,by omega⟩
end
section
theorem H4 {xs:List zl}:∀ (m:Nat) (n:Int) (ns:List Lz) (j:Nat) (d:Int),Anc xs n j d->j<m->zk n xs=true->(∀ x∈xs,∀ e∈x.es,zk e.ino xs=true)->∃ p∈qX xs m n ns,p.2.ino=d
 | 0,n,ns,j,d,ha,hj,hh,h3=>by omega
 | m+1,n,ns,0,d,ha,hj,hh,h3=>by
  cases ha;obtain ⟨_,hi⟩:=qY hh;refine ⟨(ns,zf n xs),?_,hi⟩;unfold qX;rw[if_pos hh];exact Wj
 | m+1,n,ns,j+1,d,ha,hj,hh,h3=>by
  have key:∀ (j:Nat) (d:Int),Anc xs n (j+1) d->∃ e∈(zf n xs).es,Anc xs e.ino j d:=by
   intro j
   induction j with
   | zero =>
    intro d ha;cases ha with
    | step a b c=>cases a;exact ⟨_,c,.same⟩
   | succ j ih =>
    intro d ha;cases ha with
    | step a b c =>
     obtain ⟨e,he,h⟩:=ih _ a;exact ⟨e,he,.step h b c⟩
  obtain ⟨e,he,h⟩:=key j d ha;obtain ⟨hm,_⟩:=qY hh;obtain ⟨p,p1,p2⟩:=H4 m e.ino (ns++[e.name]) j d h (by omega) (h3 _ hm e he) h3;refine ⟨p,?_,p2⟩;unfold qX;rw[if_pos hh];exact Wk _ (Ag.2 ⟨e,he,p1⟩)
theorem zem {xs:List zl}:∀ {k:Nat} {n:Int},Dep xs k n->Anc xs 1 k n
 | _,_,.root=>.same
 | _,_,.step a b c=>.step (zem a) b c
theorem zgc (h:okM f) {n:Int} (hh:zk n f.xs=true):∃ p∈trV f.xs 1 [],p.2.ino=n:=by
 obtain ⟨_,h1,_,h3,_⟩:=qN h;obtain ⟨k,hk,hd⟩:=zlt h hh;exact H4 _ 1 [] k n (zem hd) (by omega) h1.2.2.2.2.2.2.2.1 h3
theorem kC {m:Nat} {p:List Lz×zl} (hp:p∈qX f.xs m n ns):zk p.2.ino f.xs=true/\zf p.2.ino f.xs=p.2:=by
 obtain ⟨_,_,q⟩:=Yr m n ns p hp;exact q
theorem UU:∀ {l:JV} {n:Int},(Yu l).Nodup->(∀ p∈l,p.2.ino=n->p.2.kind=2)->(∃ p∈l,p.2.ino=n)->∃ p,l.filter (fun p=>decide (p.2.ino=n)) = [p]
 | [],n,_,_,⟨p,hp,_⟩=>by cases hp
 | q :: l,n,hn,hk,hex=>by
  have hk':∀ p∈l,p.2.ino=n->p.2.kind=2:=fun p hp=>hk p (Wk _ hp);by_cases hq:q.2.ino=n
  ·have hk2:=hk q Wj hq;have hc:Yu (q :: l)=q.2.ino :: Yu l:=by
    unfold Yu;rw[Oc (by simpa using hk2),WC]
   rw[hc,OP,hq]at hn;have he:l.filter (fun p=>decide (p.2.ino=n)) = []:=by
    rw[AN];intro p hp hpn;have hpn:=WP hpn;refine hn.1 ?_;exact WQ.2 ⟨p,Ox.2 ⟨hp,by simpa using hk' p hp hpn⟩,hpn⟩
   exact ⟨q,by rw[Oc (by simpa using hq),he]⟩
  ·have hn':(Yu l).Nodup:=by
    unfold Yu at hn ⊢;by_cases hk2:q.2.kind=2
    ·rw[Oc (by simpa using hk2),WC,OP]at hn;exact hn.2
    ·rw[ON (by simpa using hk2)]at hn;exact hn
   obtain ⟨p,hp,hpn⟩:=hex;have hpl:p∈l:=by
    rcases WJ.1 hp with rfl | hp
    ·exact absurd hpn hq
    ·exact hp
   obtain ⟨p',h⟩:=UU hn' hk' ⟨p,hpl,hpn⟩;exact ⟨p',by rw[ON (by simpa using hq)];exact h⟩
theorem Mo (h:okM f) {n:Int} (hh:zk n f.xs=true) (hk:(zf n f.xs).kind=2):∃ p,Zq n (trV f.xs 1 []) = [p]/\XR n (trV f.xs 1 [])=some p:=by
 obtain ⟨_,h1,_⟩:=qN h;have hkk:∀ p∈trV f.xs 1 [],p.2.ino=n->p.2.kind=2:=fun p hp hpn=>by
  obtain ⟨_,q⟩:=kC hp;rw[hpn]at q;rw[←q];exact hk
 obtain ⟨p,hp⟩:=UU (YD h _ 1 [] h1.2.2.2.2.2.2.2.1) hkk (zgc h hh);refine ⟨zH p.1,by unfold Zq;rw[hp];rfl,?_⟩;unfold XR;have he:(fun q:List Lz×zl=>decide (q.2.ino=n)&&decide (q.2.kind=2))=fun q=>decide (q.2.ino=n)&&decide (q.2.kind=2):=rfl;rw[←List.head?_filter];have hf:(trV f.xs 1 []).filter (fun q=>decide (q.2.ino=n)&&decide (q.2.kind=2))=(trV f.xs 1 []).filter fun q=>decide (q.2.ino=n):=by
  refine List.filter_congr fun q hq=>?_;by_cases hqn:q.2.ino=n
  ·simp[hqn,hkk q hq hqn]
  ·simp[hqn]
 rw[hf,hp];rfl
end
section
theorem Nw {xs:List zl} (hm:∀ x∈xs,∀ e∈x.es,may e.name=true):∀ (m:Nat) (n:Int) (ns:List Lz),∀ p∈qX xs m n ns,∃ zs,p.1=ns++zs/\∀ z∈zs,may z=true
 | 0,n,ns,p,hp=>by unfold qX at hp;cases hp
 | m+1,n,ns,p,hp=>by
  unfold qX at hp;split at hp
  ·rename_i hh;rcases WJ.1 hp with rfl | hp
   ·exact ⟨[],by simp,fun z hz=>by cases hz⟩
   ·obtain ⟨e,he,hp⟩:=Ag.1 hp;obtain ⟨zs,h1,h2⟩:=Nw hm m e.ino _ p hp;refine ⟨e.name :: zs,by rw[h1,WL];rfl,fun z hz=>?_⟩;rcases WJ.1 hz with rfl | hz
    ·exact hm _ (qY hh).1 e he
    ·exact h2 z hz
  ·cases hp
theorem zdH {es:List zN} (h:Xp es):es.Pairwise fun a b=>a.name≠b.name:=by
 have key:∀ (d i:Nat) (hj:i+d+1<es.length),es[i].name<es[i+d+1].name:=by
  intro d
  induction d with
  | zero =>
   intro i hj;have h1:=(h (i+1) hj).2.2 (by omega);rw[bytesLess_eq]at h1;exact WP h1
  | succ d ih =>
   intro i hj;have h1:=(h (i+(d+1)+1) hj).2.2 (by omega);rw[bytesLess_eq]at h1;have h1:=WP h1;have h2:=ih i (by omega);exact List.lt_trans h2 h1
 refine WO.2 fun i j hi hj hij he=>?_;obtain ⟨d,rfl⟩:∃ d,j=i+d+1:=⟨j-i-1,by omega⟩;have h1:=key d i hj;rw[he]at h1;exact List.lt_irrefl _ h1
theorem kZ (h:okM f):(∀ x∈f.xs,∀ e∈x.es,may e.name=true)/\∀ x∈f.xs,x.es.Pairwise fun a b=>a.name≠b.name:=by
 obtain ⟨_,_,h2,_⟩:=qN h;have key:∀ x∈f.xs,Xp x.es:=fun x hx=>by
  by_cases hk:x.kind=2
  ·exact ((h2 x hx).2.2.1 hk).2
  ·rw[((h2 x hx).2.1 hk).1];intro i hi;simp at hi
 refine ⟨fun x hx e he=>?_,fun x hx=>zdH (key x hx)⟩;obtain ⟨i,hi,rfl⟩:=Wx he;exact (key x hx i hi).1
end
section
open CA CB
open Go.RowKit
def Yx (p n:Lz):Lz:=if Lib.hasSuffix p [47] then p++n else p++[47]++n
theorem ZH (p n:Lz) (hp:p.length<=1000000) (hn:n.length<=1000000):Fun Tryz.prog G0 69 [.str p,.str n] (.str (Yx p n)) 0:=by
 have h:=Vd p [47] hp;cases hs:Lib.hasSuffix p [47] with
 | true =>
  have e:Yx p n=p++n:=by unfold Yx;rw[hs,if_pos rfl]
  rw[hs]at h;refine fon Tryz.func69 ?_;dsimp only[Tryz.f69];push_cast;refine cl h ?_;push_cast
  repeat refine an ?_
  exact dn (by push_cast [ze,zd,CLe,zh,e])
 | false =>
  have e:Yx p n=p++[47]++n:=by unfold Yx;rw[hs];rfl
  rw[hs]at h;refine fon Tryz.func69 ?_;dsimp only[Tryz.f69];push_cast;refine cl h ?_;push_cast
  repeat refine an ?_
  exact dn (by push_cast [ze,zd,CLe,zh,e])
theorem zly (h:okM f) {n:Int} (hh:zk n f.xs=true) (hk:(zf n f.xs).kind=2) :
  ∃ ns,(∀ z∈ns,may z=true)/\ns.length<=3241/\zhO ns<=980000/\Zq n (trV f.xs 1 []) = [zH ns]/\XR n (trV f.xs 1 [])=some (zH ns):=by
 obtain ⟨h0,h1,_⟩:=qN h;have hkk:∀ p∈trV f.xs 1 [],p.2.ino=n->p.2.kind=2:=fun p hp hpn=>by
  obtain ⟨_,q⟩:=kC hp;rw[hpn]at q;rw[←q];exact hk
 obtain ⟨p,hp⟩:=UU (YD h _ 1 [] h1.2.2.2.2.2.2.2.1) hkk (zgc h hh);obtain ⟨q,q1,q2⟩:=Mo h hh hk;have hq:Zq n (trV f.xs 1 []) = [zH p.1]:=by unfold Zq;rw[hp];rfl
 rw[hq]at q1;have hqe:zH p.1=q:=by simpa using q1
 have hpm:p∈trV f.xs 1 []:=(Ox.1 (by rw[hp];exact WT.2 rfl)).1;obtain ⟨zs,z1,z2⟩:=Nw (kZ h).1 _ 1 [] p hpm;obtain ⟨t1,t2⟩:=VO h0 _ 1 [] p hpm;have t3:=QE p.1;have t4:zhO []=0:=rfl;have h40:=h0.1;rw[Om]at z1;rw[←z1]at z2;simp only[OF,t4]at t1 t2;exact ⟨p.1,z2,by omega,by omega,hq,by rw[q2,hqe]⟩
theorem vw (ns:List Lz) (x:Lz) (h:∀ z∈ns,may z=true):Yx (zH ns) x=Jp (zH ns) x:=by
 by_cases h0:ns = []
 ·subst h0;rfl
 ·have hs:Lib.hasSuffix (zH ns) [47]=false:=by
   have:=yc true ns false fun z hz=>jO (h z hz);have e:put true ns false=zH ns:=by unfold put zH;rw[if_neg h0];simp
   rw[e,Wi h0]at this;simpa using this
  have hne:zH ns≠[47]:=fun e=>by
   rw[e]at hs;exact absurd hs (by decide)
  unfold Yx Jp;rw[hs,if_neg hne];rfl
def qu (f:FsV) (s:zK):Lz:=Jp ((XR s.dir (trV f.xs 1 [])).getD []) s.name
theorem ZV (f:FsV) (h:okM f) (s:zK) (hh:zk s.dir f.xs=true) (hk:(zf s.dir f.xs).kind=2) (hm:may s.name=true):Fun Tryz.prog G0 74 [.agg (fsC f),.agg (XN s)] (.str (qu f s)) 0:=by
 obtain ⟨ns,n1,n2,n3,n4,n5⟩:=zly h hh hk;have hp:=Hc f s.dir _ (zd7 h) (uN h 1 [] (by decide) (by decide));have hml:=ky hm;have hjw:=QE ns;have hjl:(zH ns).length<=980001:=by unfold zH;split<;>simp<;>omega
 have hr:=UR (zH ns) (by omega);unfold zjv at hr;rw[XM ns fun z hz=>jO (n1 z hz)]at hr;have hj:=Qw (ns++[s.name]) (by simp;omega) (by
  have a1:=QE (ns++[s.name]);rw[Mt]at a1;omega)
 rw[YE ns s.name fun y hy=>(jO (n1 y hy)).1]at hj;have e:qu f s=Jp (zH ns) s.name:=by unfold qu;rw[n5];rfl
 rw[n5]at hp;have hsl:(qj ns).length=ns.length:=We ..;refine fof (fun i=>if i=2 then [false,false,false,false,false,false,true,false,false] else []) Tryz.func74 ?_;dsimp only[Tryz.f74];push_cast;refine cl hp ?_;push_cast [W9,AT];refine cl hr ?_;push_cast
 repeat refine an ?_
 refine cl hj ?_;push_cast;exact dn (by push_cast [ze,zd,CLe,zh,e])
end
section
open Go.RowKit
end
section
open Go.RowKit
end
section
open CA CB
open Go.RowKit
end
section
open Go.RowKit Go.ChangeMaps Go.ChangeShapes Go.WideShapes Go.Deep Go.Joins
section
variable {H:Type} {enc:TypeId×Value->H} {W:World}
end
theorem zsP {W:World} {l:List (String×DataW Unit)} (h:laidMetH Tryz.prog l W) (hp:(l.filter fun x=>x.2.handleName?.isSome) = []) (hm:("drayman/op.has",Rows.laid_drayman_op_has)∈l):Qb G1 (xz W):=fun g cs hc=>by
 unfold G1 at hc;split at hc
 ·rename_i hg;subst hg;cases hc;exact J0 (t:=267) h hp hm (by kernel_rfl) (by kernel_rfl) (m:=4) (by kernel_rfl) (by kernel_rfl) (by kernel_rfl)
 ·cases hc
theorem zrR {W:World} {l:List (String×DataW Unit)} (h:laidMetH Tryz.prog l W) (hp:(l.filter fun x=>x.2.handleName?.isSome) = []) (hm1:("drayman/diag.phrases",Rows.laid_drayman_diag_phrases)∈l) (hm2:("drayman/args.kinds",Rows.laid_drayman_args_kinds)∈l) (hm3:("drayman/errs.messages",Rows.laid_drayman_errs_messages)∈l):Qb G2 (xz W):=fun g cs hc=>by
 unfold G2 at hc;split at hc
 ·rename_i hg;subst hg;cases hc;exact J0 (t:=215) h hp hm1 (by kernel_rfl) (by kernel_rfl) (m:=4) (vs:=phr.map fun l=>Value.string ⟨l.toArray⟩) (by kernel_rfl) (by kernel_rfl) (by kernel_rfl)
 ·split at hc
  ·rename_i hg;subst hg;cases hc;exact J0 (t:=214) h hp hm2 (by kernel_rfl) (by kernel_rfl) (m:=4) (by kernel_rfl) (by kernel_rfl) (by kernel_rfl)
  ·split at hc
   ·rename_i hg;subst hg;cases hc;exact J0 (t:=262) h hp hm3 (by kernel_rfl) (by kernel_rfl) (m:=4) (vs:=ztn.map fun l=>Value.string ⟨l.toArray⟩) (by kernel_rfl) (by kernel_rfl) (by kernel_rfl)
   ·cases hc
theorem zsU {W:World} {l:List (String×DataW Unit)} (h:laidMetH Tryz.prog l W) (hp:(l.filter fun x=>x.2.handleName?.isSome) = []) (hm:("drayman/op.has",Rows.laid_drayman_op_has)∈l) (hm1:("drayman/diag.phrases",Rows.laid_drayman_diag_phrases)∈l) (hm2:("drayman/args.kinds",Rows.laid_drayman_args_kinds)∈l) (hm3:("drayman/errs.messages",Rows.laid_drayman_errs_messages)∈l):Qb GD (xz W):=fun g cs hc=>by
 unfold GD at hc;split at hc
 ·exact zsP h hp hm g cs hc
 ·exact zrR h hp hm1 hm2 hm3 g cs hc
end
section
structure zli (x:zl):Prop where
 par:x.kind≠2->x.parent=0
 bare:x.kind=2->x.data = []
 nam:∀ e∈x.es,may e.name=true
 lnk:x.kind=3->1<=x.data.length/\x.data.length<=4095/\∀ b∈x.data,b≠0
 named:x.ino≠1->1<=x.links
 one:x.kind=2->x.ino≠1->x.links=1
 top:x.ino=1->x.parent=1
def zsM (rk:Int->Nat) (xs:List zl):Prop:=∀ y∈xs,∀ e∈y.es,(zf e.ino xs).kind=2->(zf e.ino xs).parent=y.ino/\rk y.ino<rk e.ino
structure FsR (f:FsV):Prop where
 node:∀ x∈f.xs,zli x
 edge:∃ rk,zsM rk f.xs
 fit:(f.xs.length:Int)<=f.maxI/\(z8 f.xs:Int)<=f.maxB
 lim:1<=f.maxI/\f.maxI<=1073741824/\0<=f.maxB/\f.maxB<=1073741824
theorem xA (h:z6 xs) {x y:zl} (hx:x∈xs) (hy:y∈xs) (e:x.ino=y.ino):x=y:=by
 obtain ⟨i,hi,rfl⟩:=Wx hx;obtain ⟨j,hj,rfl⟩:=Wx hy;have hp:=WO.1 h;rcases O9 i j with q | q | q
 ·have:=hp i j hi hj q;omega
 ·subst q;rfl
 ·have:=hp j i hj hi q;omega
theorem kH (h:z6 xs):(xs.map (·.ino)).Nodup:=by
 rw[List.Nodup,List.pairwise_map];exact List.Pairwise.imp (fun q e=>by omega) h
theorem VE:(n,p)∈qn xs↔∃ y∈xs,∃ e∈y.es,e.ino=n/\y.ino=p:=by
 unfold qn;rw[Ag];refine exists_congr fun y=>and_congr_right fun hy=>?_;unfold VS;rw[WQ];refine exists_congr fun e=>and_congr_right fun he=>?_;rw[Prod.mk.injEq]
theorem zgC (h1:1<=Zx n l) (h:∀ q,(n,q)∈l->q=p):UB n l=p:=by
 unfold Zx at h1;unfold UB;cases hq:(l.filter fun p=>p.1==n).getLast? with
 | none=>rw[List.getLast?_eq_none_iff]at hq;rw[hq]at h1;simp at h1
 | some r =>
  obtain ⟨h2,h3⟩:=Ox.1 (List.mem_of_getLast? hq);have h3:r.1=n:=by simpa using h3
  show r.2=p;exact h r.2 (by rw[←h3];exact h2)
theorem ziS {es:List zN}:∀ S:List Int,∃ t,HF S es=S++t:=by
 induction es with
 | nil=>exact fun S=>⟨[],by simp[HF]⟩
 | cons e r ih =>
  intro S;obtain ⟨t,h⟩:=ih (Y0 S e.ino);show ∃ t,HF (Y0 S e.ino) r=S++t;rw[h];unfold Y0;split
  ·exact ⟨t,rfl⟩
  ·exact ⟨e.ino :: t,by simp⟩
theorem HB {xs:List zl} (h3:∀ x∈xs,∀ e∈x.es,zk e.ino xs=true):∀ (m i:Nat) (S:List Int),Y5 xs S->(∀ j<i,∀ n,S[j]?=some n->∀ e∈(zf n xs).es,e.ino∈S)->xs.length+1<=m+i ->
  (∀ n∈S,n∈Zo xs m i S)/\∀ n∈Zo xs m i S,∀ e∈(zf n xs).es,e.ino∈Zo xs m i S
 | 0,i,S,hS,hc,hm=>by
  have hl:=XJ hS.nodup hS.has;show (∀ n∈S,n∈S)/\∀ n∈S,∀ e∈(zf n xs).es,e.ino∈S;refine ⟨fun n h=>h,fun n hn e he=>?_⟩;obtain ⟨j,hj,rfl⟩:=Wx hn;exact hc j (by omega) _ (Wa hj) e he
 | m+1,i,S,hS,hc,hm=>by
  unfold Zo;cases hg:S[i]? with
  | none =>
   have hi:=List.getElem?_eq_none_iff.1 hg;show (∀ n∈S,n∈S)/\∀ n∈S,∀ e∈(zf n xs).es,e.ino∈S;refine ⟨fun n h=>h,fun n hn e he=>?_⟩;obtain ⟨j,hj,rfl⟩:=Wx hn;exact hc j (by omega) _ (Wa hj) e he
  | some n =>
   have hn:=hS.has n (Wf hg);have hi:=(Wc.1 hg).1;have hg':=zi hn;obtain ⟨t,ht⟩:=ziS (es:=(zf n xs).es) S;have hsub:∀ k∈S,k∈HF S (zf n xs).es:=fun k hk=>NV.2 (.inl hk);obtain ⟨r1,r2⟩:=HB h3 m (i+1) (HF S (zf n xs).es) (Mg hS fun e he=>h3 _ hg'.2.1 e he) (fun j hj k hk e he=>by
    rcases Wp j i with hji | hji
    ·have:S[j]?=some k:=by rw[ht,Wt (by omega)]at hk;exact hk
     exact hsub _ (hc j hji k this e he)
    ·have:j=i:=by omega
     subst this;rw[ht,Wt hi,hg]at hk;cases hk;exact NV.2 (.inr ⟨e,he,rfl⟩)) (by omega)
   exact ⟨fun k hk=>r1 k (hsub k hk),r2⟩
theorem uQ (h:1<=Zx n l):∃ p,(n,p)∈l:=by
 unfold Zx at h;obtain ⟨r,hr⟩:=List.exists_mem_of_length_pos (l:=l.filter fun p=>p.1==n) (by omega);obtain ⟨h1,h2⟩:=Ox.1 hr;have h2:r.1=n:=by simpa using h2
 exact ⟨r.2,by rw[←h2];exact h1⟩
theorem FsR.links (hi:FsI f) {x:zl} (hx:x∈f.xs):x.links=(Zx x.ino (qn f.xs):Int):=by rw[Qt];exact hi.links x hx
theorem Nv (hi:FsI f) {y:zl} (hy:y∈f.xs) {e:zN} (he:e∈y.es):y.kind=2:=by
 by_cases h:y.kind=2
 ·exact h
 ·rw[hi.file y hy h]at he;cases he
theorem XA (hi:FsI f) {x:zl} (hx:x∈f.xs):zf x.ino f.xs=x:=by
 have h:=Yp hx;have h2:=zi h;exact xA hi.rises h2.2.1 hx h2.2.2
theorem FsR.come (hi:FsI f) (h:FsR f) {S:List Int} (h1:(1:Int)∈S) (hc:∀ n∈S,∀ e∈(zf n f.xs).es,e.ino∈S):∀ n,zk n f.xs=true->n∈S:=by
 obtain ⟨rk,hr⟩:=h.edge;have dirs:∀ (k:Nat) (n:Int),rk n<=k->zk n f.xs=true->(zf n f.xs).kind=2->n∈S:=by
  intro k
  induction k with
  | zero =>
   intro n hk hn hd;by_cases h0:n=1
   ·rw[h0];exact h1
   obtain ⟨g1,g2,g3⟩:=zi hn;have hl:=(h.node _ g2).named (by rw[g3];exact h0);rw[FsR.links hi g2,g3]at hl;obtain ⟨p,hp⟩:=uQ (n:=n) (l:=qn f.xs) (by omega);obtain ⟨y,hy,e,he,q1,q2⟩:=VE.1 hp;have:=(hr y hy e he (by rw[q1];exact hd)).2;rw[q1]at this;omega
  | succ k ih =>
   intro n hk hn hd;by_cases h0:n=1
   ·rw[h0];exact h1
   obtain ⟨g1,g2,g3⟩:=zi hn;have hl:=(h.node _ g2).named (by rw[g3];exact h0);rw[FsR.links hi g2,g3]at hl;obtain ⟨p,hp⟩:=uQ (n:=n) (l:=qn f.xs) (by omega);obtain ⟨y,hy,e,he,q1,q2⟩:=VE.1 hp;have hlt:=(hr y hy e he (by rw[q1];exact hd)).2;rw[q1]at hlt;have hs:=XA hi hy;have:=ih y.ino (by omega) (Yp hy) (by rw[hs];exact Nv hi hy he);rw[←q1];exact hc y.ino this e (by rw[hs];exact he)
 intro n hn;by_cases h0:n=1
 ·rw[h0];exact h1
 obtain ⟨g1,g2,g3⟩:=zi hn;have hl:=(h.node _ g2).named (by rw[g3];exact h0);rw[FsR.links hi g2,g3]at hl;obtain ⟨p,hp⟩:=uQ (n:=n) (l:=qn f.xs) (by omega);obtain ⟨y,hy,e,he,q1,q2⟩:=VE.1 hp;have hs:=XA hi hy;have:=dirs _ y.ino (Wb _) (Yp hy) (by rw[hs];exact Nv hi hy he);rw[←q1];exact hc y.ino this e (by rw[hs];exact he)
theorem vL {es:List zN} (hR:JE es) (h1:∀ e∈es,may e.name=true) (h2:∀ e∈es,1<=e.ino):Xp es:=fun i h =>
 ⟨h1 _ (Wz h),h2 _ (Wz h),fun h0=>WO.1 hR (i-1) i (by omega) h (by omega)⟩
theorem FsR.check (hi:FsI f) (h:FsR f) (hn:f.next<=1099511627776):JO f=0:=by
 have h1:JM f:=⟨h.lim.1,h.lim.2.1,h.lim.2.2.1,h.lim.2.2.2,hn,hi.ino,hi.rises,hi.root,hi.base⟩;have h2:Xb f:=fun x hx=>⟨hi.kind x hx,fun hk=>⟨hi.file x hx hk,(h.node x hx).par hk⟩,fun hk=>⟨(h.node x hx).bare hk,vL (hi.es x hx) (h.node x hx).nam fun e he=>by
  have:=hi.led x hx e he;have g:=zi this;have:=(hi.ino _ g.2.1).1;rw[g.2.2]at this;exact this⟩,(h.node x hx).lnk⟩
 have h3:Y7 f:=hi.led;obtain ⟨rk,hr⟩:=h.edge;have h4:Y9 f:=fun x hx=>by
  have hl:=FsR.links hi hx;refine ⟨hl,?_⟩;by_cases h0:x.ino=1
  ·rw[if_pos h0,h0];exact ⟨by rw[Qt];exact hi.bare,(h.node x hx).top h0⟩
  ·rw[if_neg h0];have hk:=(h.node x hx).named h0;refine ⟨by omega,fun hd=>?_⟩;have ho:=(h.node x hx).one hd h0;refine ⟨by omega,(zgC (by omega) fun q hq=>?_).symm⟩;obtain ⟨y,hy,e,he,q1,q2⟩:=VE.1 hq;have:=(hr y hy e he (by rw[q1,XA hi hx];exact hd)).1;rw[q1,XA hi hx]at this;rw[←q2,this]
 have h5:Zd f:=by
  have hS:Y5 f.xs [1]:=⟨by simp,fun n hn=>by rw[WT.1 hn];exact hi.root⟩;obtain ⟨r1,r2⟩:=HB hi.led (f.xs.length+1) 0 [1] hS (fun j hj=>absurd hj (Oe _)) (by omega);have hok:=(Nf hi.led (f.xs.length+1) 0 [1] hS (fun n hn=>by rw[WT.1 hn];exact ⟨0,.root⟩)).1;have hall:=h.come hi (r1 1 (by simp)) r2;have q1:=XJ hok.nodup hok.has;have q2:=UJ (S:=f.xs.map (·.ino)) (kH hi.rises) fun n hn=>hall n (U0.2 hn);rw[We]at q2;exact Nat.le_antisymm q1 q2
 unfold JO;rw[if_pos h1,if_pos h2,if_pos h3,if_pos h4,if_pos h5,if_pos (show HU f from h.fit)]
open Classical in
theorem zeP (h:okM f):FsR f:=by
 obtain ⟨h0,h1,h2,h3,h4,h5,h6⟩:=qN h;have hi:=Qk h.2;refine ⟨fun x hx=>?_,?_,h6,h1.1,h1.2.1,h1.2.2.1,h1.2.2.2.1⟩
 ·obtain ⟨a1,a2,a3,a4⟩:=h2 x hx;obtain ⟨b1,b2⟩:=h4 x hx;refine ⟨fun hk=>(a2 hk).2,fun hk=>(a3 hk).1,fun e he=>?_,a4,fun hn=>?_,fun hk hn=>?_,fun hn=>?_⟩
  ·obtain ⟨i,hi',rfl⟩:=Wx he;exact ((a3 (Nv hi hx he)).2 i hi').1
  ·rw[if_neg hn]at b2;rw[b1];omega
  ·rw[if_neg hn]at b2;rw[b1,(b2.2 hk).1];rfl
  ·rw[if_pos hn]at b2;exact b2.2
 ·refine ⟨fun n=>if hd:∃ k,Dep f.xs k n then hd.choose else 0,fun y hy e he hk=>?_⟩;have hs:=XA hi hy;have hh:=hi.led y hy e he;have g:=zi hh;have hyk:=Nv hi hy he;have hey:e∈(zf y.ino f.xs).es:=by rw[hs];exact he
  have hne:e.ino≠1:=Jn h (Yp hy) hey;constructor
  ·have b:=(h4 _ g.2.1).2;rw[g.2.2,if_neg hne]at b;obtain ⟨c1,c2⟩:=b.2 hk;rw[c2];exact zgC (by omega) fun q hq=>(y8 (VE.2 ⟨y,hy,e,he,rfl,rfl⟩) hq c1).symm
  ·obtain ⟨k,hd⟩:=Nl h (Yp hy);have hd2:=Dep.step hd (Yp hy) hey;have e1:∃ k,Dep f.xs k y.ino:=⟨k,hd⟩;have e2:∃ k,Dep f.xs k e.ino:=⟨k+1,hd2⟩;show (if hd:∃ k,Dep f.xs k y.ino then hd.choose else 0)<if hd:∃ k,Dep f.xs k e.ino then hd.choose else 0;rw[dif_pos e1,dif_pos e2,VN h _ _ _ e1.choose_spec hd (Yp hy) (by rw[hs];exact hyk),VN h _ _ _ e2.choose_spec hd2 hh hk];exact Nat.lt_succ_self k
end
section
def bN (x:zl):Nat:=if x.kind=1 then x.data.length else 0
theorem Yb:∀ xs:List zl,z8 xs=N4 bN xs
 | []=>rfl
 | x :: r=>by
  have ih:=Yb r;unfold z8 N4 at ih ⊢;rw[WC,OO,←ih,O6];unfold bN;by_cases h:x.kind=1<;>simp[h]
theorem Qq (hR:z6 xs) {x:zl} (hh:zk x.ino xs=true):z8 (qo x xs)+bN (zf x.ino xs)=z8 xs+bN x:=by
 have:=UE bN (x:=x) hR;rw[(zi hh).1]at this;rw[Yb,Yb];exact this
theorem kS (hR:z6 xs) {x:zl} (hh:zk x.ino xs=false):z8 (qo x xs)=z8 xs+bN x:=by
 have:=UE bN (x:=x) hR;rw[(J4 hh).1]at this;rw[Yb,Yb];exact this
theorem zcM (hR:z6 xs) (n:Int):z8 (qh n xs)<=z8 xs:=by
 have:=Z1 bN (n:=n) hR;rw[Yb,Yb];omega
theorem Xv (hR:z6 xs) {n:Int} {F:List zN->List zN} (hh:zk n xs=true):z8 (ql n F xs)=z8 xs:=by
 have hg:=zi hh;have:=Qq hR (x:=qt (zf n xs) (F (zf n xs).es)) (by show zk (zf n xs).ino xs=true;rw[hg.2.2];exact hh);have e:bN (zf (qt (zf n xs) (F (zf n xs).es)).ino xs)=bN (qt (zf n xs) (F (zf n xs).es)):=by
  show bN (zf (zf n xs).ino xs)=bN (zf n xs);rw[hg.2.2]
 rw[e]at this;exact Nat.add_right_cancel this
theorem zlS {x:zl} (hR:z6 xs) (hh:zk x.ino xs=false):(qo x xs).length=xs.length+1:=by rw[←va hR hh];simp;have:=zfQ x.ino xs;omega
theorem zdX (n:Int) (xs:List zl):(qh n xs).length<=xs.length:=Ak _ _
theorem zli.turn {x:zl} (h:zli x) {es:List zN} (he:∀ e∈es,may e.name=true):zli (qt x es):=⟨h.par,h.bare,he,h.lnk,h.named,h.one,h.top⟩
theorem jM {m:Int} {F:List zN->List zN} (hh:zk n xs=true):(zf m (ql n F xs)).kind=(zf m xs).kind/\(zf m (ql n F xs)).parent=(zf m xs).parent/\(zf m (ql n F xs)).links=(zf m xs).links:=by
 rw[jS hh];split
 ·subst_vars;exact ⟨rfl,rfl,rfl⟩
 ·exact ⟨rfl,rfl,rfl⟩
theorem FsR.like {g:FsV} (h:FsR f) (hN:∀ z∈g.xs,zli z) (hE:∀ z∈g.xs,∀ e∈z.es,(zf e.ino g.xs).kind=2->∃ y∈f.xs,y.ino=z.ino/\e∈y.es/\(zf e.ino f.xs).kind=2/\(zf e.ino g.xs).parent=(zf e.ino f.xs).parent)
  (h1:g.maxI=f.maxI) (h2:g.maxB=f.maxB) (hl:g.xs.length<=f.xs.length) (hb:(z8 g.xs:Int)<=f.maxB):FsR g:=by
 obtain ⟨rk,hr⟩:=h.edge;refine ⟨hN,⟨rk,fun z hz e he hk=>?_⟩,?_,by rw[h1,h2];exact h.lim⟩
 ·obtain ⟨y,hy,q1,q2,q3,q4⟩:=hE z hz e he hk;have:=hr y hy e q2 q3;rw[q4,←q1];exact this
 ·have:=h.fit;rw[h1,h2];omega
theorem zoY (hi:FsI f) (h:FsR f) {s:zK} (hs:jr f s) (hm:may s.name=true) {k:Int} {t:Lz} (hk:k=1∨k=2∨k=3) (hr:JS f 1 (if k=1 then (t.length:Int) else 0)=true) (h2:k=2->t = [])
  (h3:k=3->1<=t.length/\t.length<=4095/\∀ b∈t,b≠0):FsR (Q8 f s k t):=by
 obtain ⟨n1,n2⟩:=QN hi;have hd:=zi hs.has;have hlt:=vl hi;have hdn:s.dir≠f.next:=fun e=>by have:=hs.has;rw[e,n1]at this;cases this
 have hR1:z6 (ql s.dir (zL s.name f.next) f.xs):=zZ hi.rises;have hn1:zk f.next (ql s.dir (zL s.name f.next) f.xs)=false:=by rw[zQ hs.has];exact n1
 obtain ⟨rk,hrk⟩:=h.edge;have hmem:∀ {z:zl},z∈(Q8 f s k t).xs->z=⟨f.next,k,1,t,if k=2 then s.dir else 0,[]⟩∨z=qt (zf s.dir f.xs) (zL s.name f.next (zf s.dir f.xs).es)∨(z∈f.xs/\z.ino≠s.dir):=fun {z} hz=>by
  rcases qE.1 hz with rfl | ⟨hz,_⟩
  ·exact .inl rfl
  ·exact .inr ((qG hs.has).1 hz)
 have hgot:∀ m,m≠f.next->(zf m (Q8 f s k t).xs).kind=(zf m f.xs).kind/\(zf m (Q8 f s k t).xs).parent=(zf m f.xs).parent:=fun m hm=>by
  have e:zf m (Q8 f s k t).xs=zf m (ql s.dir (zL s.name f.next) f.xs):=by
   show zf m (qo _ _)=_;rw[qQ,if_neg (fun e:f.next=m=>hm e.symm)]
  rw[e];exact ⟨(jM hs.has).1,(jM hs.has).2.1⟩
 have hgn:zf f.next (Q8 f s k t).xs=⟨f.next,k,1,t,if k=2 then s.dir else 0,[]⟩:=by
  show zf _ (qo _ _)=_;rw[qQ,if_pos rfl]
 refine ⟨fun z hz=>?_,⟨fun n=>if n=f.next then rk s.dir+1 else rk n,fun y hy e he hke=>?_⟩,?_,h.lim⟩
 ·rcases hmem hz with rfl | rfl | ⟨hz,_⟩
  ·exact ⟨fun q=>if_neg q,h2,fun e he=>(by cases he),h3,fun _=>O7 1,fun _ _=>rfl,fun q=>by have q:f.next=1:=q;omega⟩
  ·exact (h.node _ hd.2.1).turn fun e he=>by
    rcases Yt he with rfl | he
    ·exact hm
    ·exact (h.node _ hd.2.1).nam e he
  ·exact h.node z hz
 ·have old:∀ y0∈f.xs,e∈y0.es->(zf e.ino (Q8 f s k t).xs).parent=y0.ino/\(if y0.ino=f.next then rk s.dir+1 else rk y0.ino)<(if e.ino=f.next then rk s.dir+1 else rk e.ino):=fun y0 hy0 he0=>by
   have hne:=n2 y0 hy0 e he0;obtain ⟨g1,g2⟩:=hgot e.ino hne;rw[g1]at hke;have:=hrk y0 hy0 e he0 hke;rw[g2,if_neg hne,if_neg (fun q=>by have:=(hi.ino y0 hy0).2;omega)];exact this
  rcases hmem hy with rfl | rfl | ⟨hy,_⟩
  ·cases he
  ·rcases Yt he with rfl | he
   ·rw[hgn]at hke ⊢;have hke:k=2:=hke;show (if k=2 then s.dir else 0)=(zf s.dir f.xs).ino/\_;rw[if_pos hke,hd.2.2];refine ⟨rfl,?_⟩;show (if s.dir=f.next then _ else rk s.dir)<if f.next=f.next then _ else _;rw[if_neg hdn,if_pos rfl];exact Nat.lt_succ_self _
   ·exact old (zf s.dir f.xs) hd.2.1 he
  ·exact old y hy he
 ·unfold JS at hr;simp only[Wo,WR]at hr;have hl:(Q8 f s k t).xs.length=f.xs.length+1:=by
   show (qo _ _).length=_;rw[zlS hR1 hn1,jW hi.rises hs.has]
  have hb:z8 (Q8 f s k t).xs=z8 f.xs+bN ⟨f.next,k,1,t,if k=2 then s.dir else 0,[]⟩:=by
   show z8 (qo _ _)=_;rw[kS hR1 hn1,Xv hi.rises hs.has]
  rw[hl,hb];show ((f.xs.length+1:Nat):Int)<=f.maxI/\((z8 f.xs+(if k=1 then t.length else 0):Nat):Int)<=f.maxB;split at hr<;>(rename_i hq;simp only[hq,if_true,Ol];omega)
theorem zqz (hi:FsI f) (h:FsR f) {i:Int} (hh:zk i f.xs=true) (hk:(zf i f.xs).kind=1) {t:Lz} (hr:JS f 0 ((t.length:Int)-(zf i f.xs).data.length)=true):FsR (Qe f i t):=by
 have hx:=zi hh;have hhi:zk ({ zf i f.xs with data:=t }:zl).ino f.xs=true:=by show zk (zf i f.xs).ino f.xs=true;rw[hx.2.2];exact hh
 have hn:=h.node _ hx.2.1;have hgot:∀ m,(zf m (Qe f i t).xs).kind=(zf m f.xs).kind/\(zf m (Qe f i t).xs).parent=(zf m f.xs).parent:=fun m=>by
  show (zf m (qo _ _)).kind=_/\_;unfold Qe;simp only[qQ,hx.2.2];split
  ·subst_vars;exact ⟨rfl,rfl⟩
  ·exact ⟨rfl,rfl⟩
 unfold JS at hr;simp only[Wo,WR]at hr;refine h.like (fun z hz=>?_) (fun z hz e he hke=>?_) rfl rfl ?_ ?_
 ·rcases qE.1 hz with rfl | ⟨hz,_⟩
  ·exact ⟨hn.par,fun q=>by have q:(zf i f.xs).kind=2:=q;omega,hn.nam,fun q=>by have q:(zf i f.xs).kind=3:=q;omega,hn.named,hn.one,hn.top⟩
  ·exact h.node z hz
 ·rw[(hgot _).1]at hke;rcases qE.1 hz with rfl | ⟨hz,_⟩
  ·exact ⟨_,hx.2.1,rfl,he,hke,(hgot _).2⟩
  ·exact ⟨z,hz,rfl,he,hke,(hgot _).2⟩
 ·show (qo _ _).length<=_;rw[J1 hi.rises hhi];exact Wb _
 ·have:=Qq hi.rises hhi;have e1:bN (zf ({ zf i f.xs with data:=t }:zl).ino f.xs)=(zf i f.xs).data.length:=by
   show bN (zf (zf i f.xs).ino f.xs)=_;rw[hx.2.2];unfold bN;rw[if_pos hk]
  have e2:bN { zf i f.xs with data:=t }=t.length:=by unfold bN;rw[if_pos hk]
  rw[e1,e2]at this;show (z8 (qo _ _):Int)<=_;omega
theorem zq0 (hi:FsI f) (h:FsR f) {s:zK} (hs:jr f s) (hm:may s.name=true) {i:Int} (hh:zk i f.xs=true) (hk:(zf i f.xs).kind≠2):FsR (Q4 f s i):=by
 have hd:=zi hs.has;have hx:=zi hh;have hn:=h.node _ hx.2.1;have hR1:z6 (ql s.dir (zL s.name i) f.xs):=zZ hi.rises;have hhi:zk ({ zf i f.xs with links:=(zf i f.xs).links+1 }:zl).ino (ql s.dir (zL s.name i) f.xs)=true:=by rw[zQ hs.has];show zk (zf i f.xs).ino f.xs=true;rw[hx.2.2];exact hh
 have hgot:∀ m,(zf m (Q4 f s i).xs).kind=(zf m f.xs).kind/\(zf m (Q4 f s i).xs).parent=(zf m f.xs).parent:=fun m=>by
  unfold Q4;simp only[qQ,hx.2.2];split
  ·subst_vars;exact ⟨rfl,rfl⟩
  ·exact ⟨(jM hs.has).1,(jM hs.has).2.1⟩
 refine h.like (fun z hz=>?_) (fun z hz e he hke=>?_) rfl rfl ?_ ?_
 ·rcases qE.1 hz with rfl | ⟨hz,_⟩
  ·exact ⟨hn.par,hn.bare,hn.nam,hn.lnk,fun q=>by have:=hn.named q;show 1<=(zf i f.xs).links+1;omega,fun q=>absurd q hk,hn.top⟩
  ·rcases (qG hs.has).1 hz with rfl | ⟨hz,_⟩
   ·exact (h.node _ hd.2.1).turn fun e he=>by
     rcases Yt he with rfl | he
     ·exact hm
     ·exact (h.node _ hd.2.1).nam e he
   ·exact h.node z hz
 ·rw[(hgot _).1]at hke;rcases qE.1 hz with rfl | ⟨hz,_⟩
  ·exact ⟨_,hx.2.1,rfl,he,hke,(hgot _).2⟩
  ·rcases (qG hs.has).1 hz with rfl | ⟨hz,_⟩
   ·rcases Yt he with rfl | he
    ·exact absurd hke hk
    ·exact ⟨_,hd.2.1,rfl,he,hke,(hgot _).2⟩
   ·exact ⟨z,hz,rfl,he,hke,(hgot _).2⟩
 ·show (qo _ _).length<=_;rw[J1 hR1 hhi,jW hi.rises hs.has];exact Wb _
 ·have:=Qq hR1 hhi;have e1:bN (zf ({ zf i f.xs with links:=(zf i f.xs).links+1 }:zl).ino (ql s.dir (zL s.name i) f.xs))=bN { zf i f.xs with links:=(zf i f.xs).links+1 }:=by
   show bN (zf (zf i f.xs).ino _)=_;rw[hx.2.2,jS hs.has];split
   ·rename_i hq;exact absurd (by rw[←hq];exact hs.kind) hk
   ·rfl
  rw[e1,Xv hi.rises hs.has]at this;show (z8 (qo _ _):Int)<=_;have:=h.fit.2;omega
theorem zkt (hi:FsI f) (h:FsR f) {s:zK} (hs:zM f s) (he:(zf s.ino f.xs).es = []):FsR (zI f s):=by
 have hok:=kP hi hs he;have hd:=zi hs.has;have hh:=zM.ino hi hs;have hx:=zi hh;have hn:=h.node _ hx.2.1;have hne:s.dir≠s.ino:=fun e=>by
  have:=(qm hs.there).2;rw[e,he]at this;cases this
 have hr1:=QT hi hs;have hR1:z6 (ql s.dir (zj s.name) f.xs):=zZ hi.rises;have hdn:zli (qt (zf s.dir f.xs) (zj s.name (zf s.dir f.xs).es)):=(h.node _ hd.2.1).turn fun e he=>(h.node _ hd.2.1).nam e (jj he).1;by_cases hl:(zf s.ino f.xs).links-1=0
 ·have e0:zI f s = { f with xs:=qh s.ino (ql s.dir (zj s.name) f.xs) }:=by unfold zI;rw[if_pos hl]
  rw[e0]at hok ⊢;refine h.like (fun z hz=>?_) (fun z hz e he hke=>?_) rfl rfl ?_ ?_
  ·rcases (qG hs.has).1 (Xo.1 hz).1 with rfl | ⟨hz,_⟩
   ·exact hdn
   ·exact h.node z hz
  ·have hee:e.ino≠s.ino:=fun q=>by
    have:=hok.led z hz e he;rw[Qh,q]at this;simp at this
   have hg:zf e.ino (qh s.ino (ql s.dir (zj s.name) f.xs))=zf e.ino (ql s.dir (zj s.name) f.xs):=by rw[kV,if_neg hee]
   show ∃ y∈f.xs,y.ino=z.ino/\e∈y.es/\_/\(zf e.ino (qh s.ino _)).parent=_;have hke:(zf e.ino (qh s.ino (ql s.dir (zj s.name) f.xs))).kind=2:=hke;rw[hg,(jM hs.has).1]at hke;rw[hg,(jM hs.has).2.1];rcases (qG hs.has).1 (Xo.1 hz).1 with rfl | ⟨hz,_⟩
   ·exact ⟨_,hd.2.1,rfl,(jj he).1,hke,rfl⟩
   ·exact ⟨z,hz,rfl,he,hke,rfl⟩
  ·exact WN (zdX _ _) (by rw[jW hi.rises hs.has];exact Wb _)
  ·have:=zcM hR1 s.ino;rw[Xv hi.rises hs.has]at this;have:=h.fit.2;show (z8 (qh _ _):Int)<=_;omega
 ·have e0:zI f s = { f with xs:=qo { zf s.ino f.xs with links:=(zf s.ino f.xs).links-1 } (ql s.dir (zj s.name) f.xs) }:=by unfold zI;rw[if_neg hl]
  rw[e0]at hok ⊢;have hhi:zk ({ zf s.ino f.xs with links:=(zf s.ino f.xs).links-1 }:zl).ino (ql s.dir (zj s.name) f.xs)=true:=by rw[zQ hs.has];show zk (zf s.ino f.xs).ino f.xs=true;rw[hx.2.2];exact hh
  have hgot:∀ m,(zf m (qo { zf s.ino f.xs with links:=(zf s.ino f.xs).links-1 } (ql s.dir (zj s.name) f.xs))).kind=(zf m f.xs).kind/\(zf m (qo { zf s.ino f.xs with links:=(zf s.ino f.xs).links-1 } (ql s.dir (zj s.name) f.xs))).parent=(zf m f.xs).parent:=fun m=>by
   simp only[qQ,hx.2.2];split
   ·subst_vars;exact ⟨rfl,rfl⟩
   ·exact ⟨(jM hs.has).1,(jM hs.has).2.1⟩
  have hnm:=hn.named (by rw[hx.2.2];exact hr1);refine h.like (fun z hz=>?_) (fun z hz e he hke=>?_) rfl rfl ?_ ?_
  ·rcases qE.1 hz with rfl | ⟨hz,_⟩
   ·exact ⟨hn.par,hn.bare,hn.nam,hn.lnk,fun q=>by show 1<=(zf s.ino f.xs).links-1;omega,fun q1 q2=>by have:=hn.one q1 q2;omega,hn.top⟩
   ·rcases (qG hs.has).1 hz with rfl | ⟨hz,_⟩
    ·exact hdn
    ·exact h.node z hz
  ·have hke:(zf e.ino (qo { zf s.ino f.xs with links:=(zf s.ino f.xs).links-1 } (ql s.dir (zj s.name) f.xs))).kind=2:=hke;rw[(hgot _).1]at hke;rcases qE.1 hz with rfl | ⟨hz,_⟩
   ·exact ⟨_,hx.2.1,rfl,he,hke,(hgot _).2⟩
   ·rcases (qG hs.has).1 hz with rfl | ⟨hz,_⟩
    ·exact ⟨_,hd.2.1,rfl,(jj he).1,hke,(hgot _).2⟩
    ·exact ⟨z,hz,rfl,he,hke,(hgot _).2⟩
  ·show (qo _ _).length<=_;rw[J1 hR1 hhi,jW hi.rises hs.has];exact Wb _
  ·have:=Qq hR1 hhi;have e1:bN (zf ({ zf s.ino f.xs with links:=(zf s.ino f.xs).links-1 }:zl).ino (ql s.dir (zj s.name) f.xs))=bN { zf s.ino f.xs with links:=(zf s.ino f.xs).links-1 }:=by
    show bN (zf (zf s.ino f.xs).ino _)=_;rw[hx.2.2,jS hs.has,if_neg hne]
    rfl
   rw[e1,Xv hi.rises hs.has]at this;show (z8 (qo _ _):Int)<=_;have:=h.fit.2;omega
end
section
inductive Bel (xs:List zl) (x:Int):Int->Prop
 | refl:Bel xs x x
 | step {y n:Int}:Bel xs x y->zk y xs=true->(∃ e∈(zf y xs).es,e.ino=n)->Bel xs x n
def zrI (a b:zK) (y:zl) (es:List zN):Prop:=∀ e∈es,(e=⟨b.name,a.ino⟩/\y.ino=b.dir)∨(e∈y.es/\(y.ino=a.dir->e.name≠a.name))
theorem zn3 (hi:FsI f) {a b:zK} (ha:zM f a) (hb:jr f b) {z:zl} (hz:z∈ql b.dir (zL b.name a.ino) (ql a.dir (zj a.name) f.xs)):∃ y∈f.xs,∃ es,z=qt y es/\zrI a b y es:=by
 have hda:=zi ha.has;have hdb:=zi hb.has;have hb1:zk b.dir (ql a.dir (zj a.name) f.xs)=true:=by rw[zQ ha.has];exact hb.has
 have g1:∀ {z:zl},z∈ql a.dir (zj a.name) f.xs->∃ y∈f.xs,∃ es,z=qt y es/\∀ e∈es,e∈y.es/\(y.ino=a.dir->e.name≠a.name):=fun {z} hz=>by
  rcases (qG ha.has).1 hz with rfl | ⟨hz,hne⟩
  ·exact ⟨_,hda.2.1,_,rfl,fun e he=>⟨(jj he).1,fun _=>(jj he).2⟩⟩
  ·exact ⟨z,hz,z.es,rfl,fun e he=>⟨he,fun q=>absurd q hne⟩⟩
 rcases (qG hb1).1 hz with rfl | ⟨hz,hne⟩
 ·obtain ⟨y,hy,es,e1,e2⟩:=g1 (zi hb1).2.1;have hyb:y.ino=b.dir:=by
   have:=(zi hb1).2.2;rw[e1]at this;exact this
  refine ⟨y,hy,zL b.name a.ino es,by rw[e1],fun e he=>?_⟩;rcases Yt he with rfl | he
  ·exact .inl ⟨rfl,hyb⟩
  ·exact .inr (e2 e he)
 ·obtain ⟨y,hy,es,e1,e2⟩:=g1 hz;exact ⟨y,hy,es,e1,fun e he=>.inr (e2 e he)⟩
theorem uH {a b:zK} (ha:zM f a) (hb:jr f b) (m:Int):(zf m (ql b.dir (zL b.name a.ino) (ql a.dir (zj a.name) f.xs))).kind=(zf m f.xs).kind/\(zf m (ql b.dir (zL b.name a.ino) (ql a.dir (zj a.name) f.xs))).parent=(zf m f.xs).parent:=by
 have hb1:zk b.dir (ql a.dir (zj a.name) f.xs)=true:=by rw[zQ ha.has];exact hb.has
 obtain ⟨q1,q2,_⟩:=jM (m:=m) (F:=zL b.name a.ino) hb1;obtain ⟨q3,q4,_⟩:=jM (m:=m) (F:=zj a.name) ha.has;exact ⟨q1.trans q3,q2.trans q4⟩
theorem u7 (hi:FsI f) (h:FsR f) {a:zK} (ha:zM f a) (hk:(zf a.ino f.xs).kind=2) {y:zl} (hy:y∈f.xs) {e:zN} (he:e∈y.es) (hn:y.ino=a.dir->e.name≠a.name):e.ino≠a.ino:=fun q=>by
 have hh:=zM.ino hi ha;have hx:=zi hh;have hd:=zi ha.has;have hl:=(h.node _ hx.2.1).one hk (by rw[hx.2.2];exact QT hi ha);have hlk:=hi.links _ hx.2.1;rw[hx.2.2,hl]at hlk;have hc:=Zk (m:=a.ino) (F:=zj a.name) hi.rises ha.has;have hw:Yk a.ino (zf a.dir f.xs)=Yk a.ino (qt (zf a.dir f.xs) (zj a.name (zf a.dir f.xs).es))+if a.ino=a.ino then 1 else 0:=Qy (m:=a.ino) (i:=a.ino) (x:=zf a.dir f.xs) (hi.es (zf a.dir f.xs) hd.2.1) ha.there;rw[if_pos rfl]at hw;have h0:Yf a.ino (ql a.dir (zj a.name) f.xs)=0:=by omega
 by_cases hya:y.ino=a.dir
 ·have e1:y=zf a.dir f.xs:=xA hi.rises hy hd.2.1 (by rw[hd.2.2];exact hya);refine ZQ h0 _ ((qG ha.has).2 (.inl rfl)) e ?_ q;exact QC.2 ⟨by rw[←e1];exact he,hn hya⟩
 ·exact ZQ h0 y ((qG ha.has).2 (.inr ⟨hy,hya⟩)) e he q
open Classical in
theorem zqB (hi:FsI f) (h:FsR f) {a b:zK} (ha:zM f a) (hb:jr f b) (hm:may b.name=true) (hnb:(zf a.ino f.xs).kind=2->¬Bel f.xs a.ino b.dir):FsR (JG f a b):=by
 have hh:=zM.ino hi ha;have hx:=zi hh;have hr1:=QT hi ha;have hb1:zk b.dir (ql a.dir (zj a.name) f.xs)=true:=by rw[zQ ha.has];exact hb.has
 have hR1:z6 (ql a.dir (zj a.name) f.xs):=zZ hi.rises;have hR2:z6 (ql b.dir (zL b.name a.ino) (ql a.dir (zj a.name) f.xs)):=zZ hR1;have hlen:(ql b.dir (zL b.name a.ino) (ql a.dir (zj a.name) f.xs)).length=f.xs.length:=by rw[jW hR1 hb1,jW hi.rises ha.has]
 have hbyt:z8 (ql b.dir (zL b.name a.ino) (ql a.dir (zj a.name) f.xs))=z8 f.xs:=by rw[Xv hR1 hb1,Xv hi.rises ha.has]
 have hha:zk a.ino (ql b.dir (zL b.name a.ino) (ql a.dir (zj a.name) f.xs))=true:=by rw[zQ hb1,zQ ha.has];exact hh
 have hgm:=uH ha hb;have hmm:∀ {z:zl},z∈ql b.dir (zL b.name a.ino) (ql a.dir (zj a.name) f.xs)->∃ y∈f.xs,∃ es,z=qt y es/\zrI a b y es:=zn3 hi ha hb;have hnode:∀ {y:zl} {es:List zN},y∈f.xs->zrI a b y es->zli (qt y es):=fun {y es} hy he=>(h.node y hy).turn fun e hee=>by
  rcases he e hee with ⟨rfl,_⟩ | ⟨q,_⟩
  ·exact hm
  ·exact (h.node y hy).nam e q
 unfold JG;simp only;generalize ql b.dir (zL b.name a.ino) (ql a.dir (zj a.name) f.xs)=g at hR2 hlen hbyt hha hgm hmm;have hfit:=h.fit;by_cases hk:(zf a.ino f.xs).kind=2
 ·rw[if_pos (show (zf a.ino g).kind=2 from (hgm a.ino).1.trans hk)];have hnb:=hnb hk;have hxa:=zi hha;have hhi:zk ({ zf a.ino g with parent:=b.dir }:zl).ino g=true:=by show zk (zf a.ino g).ino g=true;rw[hxa.2.2];exact hha
  have hgot:∀ m,(zf m (qo { zf a.ino g with parent:=b.dir } g)).kind=(zf m f.xs).kind/\(zf m (qo { zf a.ino g with parent:=b.dir } g)).parent=if m=a.ino then b.dir else (zf m f.xs).parent:=fun m=>by
   simp only[qQ,hxa.2.2];by_cases hq:a.ino=m
   ·rw[if_pos hq,if_pos hq.symm];subst hq;exact ⟨(hgm a.ino).1,rfl⟩
   ·rw[if_neg hq,if_neg (fun q=>hq q.symm)];exact hgm m
  have hmem:∀ {z:zl},z∈qo { zf a.ino g with parent:=b.dir } g->∃ y∈f.xs,∃ es,z.ino=y.ino/\z.es=es/\zrI a b y es/\zli z:=fun {z} hz=>by
   rcases qE.1 hz with rfl | ⟨hz,_⟩
   ·obtain ⟨y,hy,es,e1,e2⟩:=hmm hxa.2.1;refine ⟨y,hy,es,by rw[e1],by rw[e1],e2,?_⟩;have hn:=hnode hy e2;rw[←e1]at hn;have hka:(zf a.ino g).kind=2:=by rw[(hgm a.ino).1];exact hk
    exact ⟨fun q=>absurd hka q,hn.bare,hn.nam,hn.lnk,hn.named,hn.one,fun q=>by have q:(zf a.ino g).ino=1:=q;rw[hxa.2.2]at q;exact absurd q hr1⟩
   ·obtain ⟨y,hy,es,e1,e2⟩:=hmm hz;exact ⟨y,hy,es,by rw[e1],by rw[e1],e2,by rw[e1];exact hnode hy e2⟩
  obtain ⟨rk,hrk⟩:=h.edge;refine ⟨fun z hz=>(hmem hz).choose_spec.2.choose_spec.2.2.2,⟨fun n=>if Bel f.xs a.ino n then rk n+rk b.dir+1 else rk n,fun z hz e he hke=>?_⟩,?_,h.lim⟩
  ·obtain ⟨y,hy,es,e1,e2,e3,_⟩:=hmem hz;have hke:(zf e.ino (qo { zf a.ino g with parent:=b.dir } g)).kind=2:=hke;rw[(hgot _).1]at hke;show (zf e.ino (qo { zf a.ino g with parent:=b.dir } g)).parent=z.ino/\(if Bel f.xs a.ino z.ino then _ else _)<(if Bel f.xs a.ino e.ino then _ else _);rw[(hgot _).2,e1];rcases e3 e (by rw[←e2];exact he) with ⟨rfl,hyb⟩ | ⟨hey,hna⟩
   ·rw[hyb,if_neg hnb];show (if a.ino=a.ino then _ else _)=_/\_<(if Bel f.xs a.ino a.ino then rk a.ino+rk b.dir+1 else _);rw[if_pos rfl,if_pos Bel.refl];exact ⟨rfl,by omega⟩
   ·have hne:=u7 hi h ha hk hy hey hna;obtain ⟨p1,p2⟩:=hrk y hy e hey hke;rw[if_neg hne];refine ⟨p1,?_⟩;have hs:=XA hi hy;have hiff:Bel f.xs a.ino e.ino↔Bel f.xs a.ino y.ino:=by
     constructor
     ·intro hB;generalize hn:e.ino=n at hB;cases hB with
      | refl=>exact absurd hn hne
      | step hB1 hv hed =>
       rename_i y';obtain ⟨e',he',q⟩:=hed;have:=(hrk _ (zi hv).2.1 e' he' (by rw[q,←hn];exact hke)).1;rw[q,←hn,p1,(zi hv).2.2]at this;rw[this];exact hB1
     ·intro hB;exact .step hB (Yp hy) ⟨e,by rw[hs];exact hey,rfl⟩
    by_cases hB:Bel f.xs a.ino y.ino
    ·rw[if_pos hB,if_pos (hiff.2 hB)];omega
    ·rw[if_neg hB,if_neg (fun q=>hB (hiff.1 q))];exact p2
  ·have hb2:=Qq hR2 hhi;have e1:bN (zf ({ zf a.ino g with parent:=b.dir }:zl).ino g)=bN { zf a.ino g with parent:=b.dir }:=by
    show bN (zf (zf a.ino g).ino g)=_;rw[hxa.2.2];rfl
   rw[e1]at hb2;have hb3:=Nat.add_right_cancel hb2;show ((qo _ _).length:Int)<=f.maxI/\(z8 (qo _ _):Int)<=f.maxB;rw[J1 hR2 hhi,hlen,hb3,hbyt];exact hfit
 ·rw[if_neg (show ¬(zf a.ino g).kind=2 from fun q=>hk ((hgm a.ino).1.symm.trans q))];refine h.like (fun z hz=>?_) (fun z hz e he hke=>?_) rfl rfl (by show g.length<=_;omega) (by show (z8 g:Int)<=_;omega)
  ·obtain ⟨y,hy,es,rfl,e2⟩:=hmm hz;exact hnode hy e2
  ·obtain ⟨y,hy,es,rfl,e2⟩:=hmm hz;have hke:(zf e.ino g).kind=2:=hke;rw[(hgm _).1]at hke;rcases e2 e he with ⟨rfl,_⟩ | ⟨q,_⟩
   ·exact absurd hke hk
   ·exact ⟨y,hy,rfl,q,hke,(hgm _).2⟩
end
section
inductive JP (xs:List zl):List Lz->Int->Prop
 | root:JP xs [] 1
 | step {ns:List Lz} {y n:Int} {m:Lz}:JP xs ns y->zk y xs=true->(zf y xs).kind=2->qM zN.name m (zf y xs).es=some ⟨m,n⟩->JP xs (ns++[m]) n
theorem JP.inv (h:JP xs ns n):(ns = []/\n=1)∨∃ ms y m,ns=ms++[m]/\JP xs ms y/\zk y xs=true/\(zf y xs).kind=2/\qM zN.name m (zf y xs).es=some ⟨m,n⟩:=by
 cases h with
 | root=>exact .inl ⟨rfl,rfl⟩
 | step h1 h2 h3 h4=>exact .inr ⟨_,_,_,rfl,h1,h2,h3,h4⟩
theorem x7 (hi:FsI f) (h:FsR f) {x y z:Int} {m k:Lz} (hx:(zf x f.xs).kind=2) (hy:zk y f.xs=true) (hyk:(zf y f.xs).kind=2) (h1:qM zN.name m (zf y f.xs).es=some ⟨m,x⟩) (hz:zk z f.xs=true) (h2:∃ e∈(zf z f.xs).es,e.name=k/\e.ino=x):z=y/\k=m:=by
 obtain ⟨e,he,rfl,q⟩:=h2;obtain ⟨rk,hr⟩:=h.edge;have gy:=zi hy;have gz:=zi hz;have p1:=(hr _ gy.2.1 ⟨m,x⟩ (qm h1).2 hx).1;have p2:=(hr _ gz.2.1 e he (by rw[q];exact hx)).1;rw[q,gz.2.2]at p2;rw[gy.2.2]at p1;have hzy:z=y:=p2.symm.trans p1;refine ⟨hzy,Ay fun hne=>?_⟩;subst hzy;exact u7 hi h (a:=⟨z,m,x⟩) ⟨hy,hyk,h1⟩ hx gy.2.1 he (fun _=>hne) q
theorem vi (hi:FsI f) {y:Int} (hy:zk y f.xs=true) {e:zN} (he:e∈(zf y f.xs).es):e.ino≠1:=ZQ hi.bare _ (zi hy).2.1 e he
theorem JP.one (hi:FsI f) (h:FsR f):∀ {ms ns:List Lz} {x:Int},JP f.xs ms x->JP f.xs ns x->(zf x f.xs).kind=2->ms=ns:=by
 intro ms ns x h1
 induction h1 generalizing ns with
 | root =>
  intro h2 hk;rcases h2.inv with ⟨e,_⟩ | ⟨ms,y,m,e,_,g1,g2,g3⟩
  ·exact e.symm
  ·exact absurd rfl (vi hi g1 (qm g3).2)
 | step a1 a2 a3 a4 ih =>
  intro h2 hk;rcases h2.inv with ⟨e,e1⟩ | ⟨ms,y,m,rfl,g0,g1,g2,g3⟩
  ·exact absurd e1 (vi hi a2 (qm a4).2)
  ·obtain ⟨rfl,rfl⟩:=x7 hi h hk a2 a3 a4 g1 ⟨_,(qm g3).2,rfl,rfl⟩;rw[ih g0 a3]
theorem Bel.lead (hi:FsI f) (h:FsR f) {x:Int} {ns:List Lz} (hn:JP f.xs ns x):∀ {m:Int} {ms:List Lz},Bel f.xs x m->JP f.xs ms m->(zf m f.xs).kind=2->∃ r,ms=ns++r:=by
 intro m ms hB
 induction hB generalizing ms with
 | refl=>intro h1 hk;exact ⟨[],by rw[Od];exact JP.one hi h h1 hn hk⟩
 | step b1 b2 b3 ih =>
  intro h1 hk;obtain ⟨e,he,q⟩:=b3;rcases h1.inv with ⟨_,e1⟩ | ⟨ms',y',k,rfl,g0,g1,g2,g3⟩
  ·exact absurd (q.trans e1) (vi hi b2 he)
  ·obtain ⟨rfl,_⟩:=x7 hi h hk g1 g2 g3 b2 ⟨e,he,rfl,q⟩;obtain ⟨r,hr⟩:=ih g0 g2;exact ⟨r++[k],by rw[hr,WL]⟩
theorem Z2 {f:FsV} (hi:FsI f):∀ (ns pre:List Lz) (s:zK),(s.ino≠0->JP f.xs pre s.ino/\zk s.ino f.xs=true)->(atW f.xs ns s).2=0->ns≠[] ->
  ∃ ms,ns=ms++[(atW f.xs ns s).1.name]/\JP f.xs (pre++ms) (atW f.xs ns s).1.dir
 | [],pre,s,_,_,h=>absurd rfl h
 | n :: r,pre,s,hs,h0,_=>by
  unfold atW at h0 ⊢;by_cases h1:s.ino=0
  ·rw[if_pos h1]at h0;cases h0
  rw[if_neg h1]at h0 ⊢;by_cases h2:(zf s.ino f.xs).kind≠2
  ·rw[if_pos h2]at h0;cases h0
  rw[if_neg h2]at h0 ⊢;have h2:(zf s.ino f.xs).kind=2:=WE.1 h2;obtain ⟨g1,g2⟩:=hs h1;have hg:=zi g2;cases r with
  | nil =>
   unfold atW;refine ⟨[],rfl,?_⟩;rw[Od];show JP f.xs pre (zf s.ino f.xs).ino;rw[hg.2.2];exact g1
  | cons m r =>
   obtain ⟨ms,e1,e2⟩:=Z2 hi (m :: r) (pre++[n]) ⟨(zf s.ino f.xs).ino,n,zY n (zf s.ino f.xs).es⟩ (fun hne=>by
    have hne:zY n (zf s.ino f.xs).es≠0:=hne;have hh:YM n (zf s.ino f.xs).es=true:=by
     unfold YM;rw[qx];cases hq:qM zN.name n (zf s.ino f.xs).es with
     | some e=>rfl
     | none=>unfold zY at hne;rw[hq]at hne;exact absurd rfl hne
    exact ⟨.step g1 g2 h2 (Yy hh),VI hi g2 hh⟩) h0 (by simp)
   refine ⟨n :: ms,by rw[W8,←e1],?_⟩;rw[WL]at e2;exact e2
theorem zfi (hi:FsI f) (h:FsR f) {p q:Lz} (hp:zT p=true) (hq:zT q=true) (h1:(isV f p true).2.2=0) (h2:(isV f q false).2.2=0) (hu:Xy q p=false) (hk:(zf (isV f p true).1.ino f.xs).kind=2):¬Bel f.xs (isV f p true).1.ino (isV f q false).1.dir:=fun hB=>by
 have hta:=(jB hi hp h1).1;have hfb:=Ju hi hq h2;unfold zT at hp hq;simp only[Wo,OY,Of]at hp hq;have root:(1:Int)≠0->JP f.xs [] 1/\zk 1 f.xs=true:=fun _=>⟨.root,hi.root⟩;have ea:(isV f p true).1=(atW f.xs (zn p) ⟨0,[],1⟩).1:=by show (atV f p).1=_;unfold atV;rw[if_pos hp.1]
 have eb:(isV f q false).1=(atW f.xs (zn q) ⟨0,[],1⟩).1:=by show (atV f q).1=_;unfold atV;rw[if_pos hq.1]
 have za:(atW f.xs (zn p) ⟨0,[],1⟩).2=0:=by have:=QF h1;unfold atV at this;rwa [if_pos hp.1]at this
 have zb:(atW f.xs (zn q) ⟨0,[],1⟩).2=0:=by have:=QF h2;unfold atV at this;rwa [if_pos hq.1]at this
 obtain ⟨ma,a1,a2⟩:=Z2 hi (zn p) [] ⟨0,[],1⟩ root za hp.2;obtain ⟨mb,b1,b2⟩:=Z2 hi (zn q) [] ⟨0,[],1⟩ root zb hq.2;rw[←ea]at a1 a2;rw[←eb]at b1 b2;have la:JP f.xs (zn p) (isV f p true).1.ino:=by
  rw[a1];exact .step a2 hta.has hta.kind hta.there
 obtain ⟨r,hr⟩:=Bel.lead hi h la hB b2 hfb.kind;have hr:mb=zn p++r:=hr;have hn:zn q=zn p++(r++[(isV f q false).1.name]):=by rw[b1,hr,WL]
 have hu2:=Hw (zn q) (zn p) (fun x hx=>Va hx) (fun x hx=>Va hx);rw[qZ hp.1,qZ hq.1,hu,hn,OE  rfl]at hu2;simp at hu2
end
section
structure yt (w:qH):Prop where
 fs:FsR w.fs
 pool:∀ x∈w.pool,qO w x
 slots:∀ k∈w.kept,1<=k.slot
 kept:∀ k∈w.kept,X9 w k
theorem zsY (h:okW w):yt w:=⟨zeP (okV.m ⟨h.1.2.1,h.2.1⟩),h.2.2.2.1,h.2.2.2.2.1.2,h.2.2.2.2.2⟩
theorem zrL (h:yt w) {g:FsV} (hg:FsR g) (hn:w.fs.next<=g.next) (hp:∀ x∈w.pool,zk x.ino g.xs=false) (hk:∀ m,zk m w.fs.xs=true->zk m g.xs=true/\(zf m g.xs).kind=(zf m w.fs.xs).kind):yt { w with fs:=g }:=by
 refine ⟨hg,fun x hx=>?_,h.slots,fun k hkk=>?_⟩
 ·obtain ⟨q1,q2,q3,q4⟩:=h.pool x hx;exact ⟨hp x hx,q2,by show x.ino<g.next;omega,q4⟩
 ·obtain ⟨q1,q2,q3,q4⟩:=h.kept k hkk;refine ⟨q1,q2.imp (fun q=>(hk _ q).1) id,fun hc=>?_,q4⟩;have:=q3 hc;show (if zk k.ino w.pool=true then zf k.ino w.pool else zf k.ino g.xs).kind=1;by_cases hq:zk k.ino w.pool=true
  ·rw[if_pos hq]at this ⊢;exact this
  ·rw[if_neg hq]at this ⊢;rw[(hk _ (q2.resolve_right hq)).2];exact this
theorem zfa (hi:Q9 w) (h:yt w) {p:Lz} (hp:zT p=true) {k:Int} (hk:k=1∨k=2∨k=3) {t:Lz} (h2:k=2->t = []) (h3:k=3->1<=t.length/\t.length<=4095/\∀ b∈t,b≠0):yt (JK w p k t).1:=by
 unfold JK;by_cases hz:(isV w.fs p false).2.2≠0
 ·rw[if_pos hz];exact h
 rw[if_neg hz];have hs:=Ju hi.fs hp (WE.1 hz);obtain ⟨n1,n2⟩:=QN hi.fs;show yt { w with fs:=(kw w.fs (isV w.fs p false).1 k t).1 };unfold kw;by_cases hm:may (isV w.fs p false).1.name=true
 case neg=>rw[if_neg hm];exact h
 rw[if_pos hm];by_cases hr:JS w.fs 1 (if k=1 then (t.length:Int) else 0)=true
 case neg=>rw[if_neg hr];exact h
 rw[if_pos hr];have hhas:∀ m,zk m (Q8 w.fs (isV w.fs p false).1 k t).xs=(decide (w.fs.next=m)||zk m w.fs.xs):=fun m=>by
  show zk m (qo _ _)=_;rw[ja,zQ hs.has]
 refine zrL h (zoY hi.fs h.fs hs hm hk hr h2 h3) (by show w.fs.next<=w.fs.next+1;omega) (fun x hx=>?_) (fun m hh=>⟨by rw[hhas,hh,BA],?_⟩)
 ·rw[hhas,(hi.apart x hx).1,A1];exact Wi (by have:=(hi.apart x hx).2;omega)
 ·have hne:w.fs.next≠m:=fun e=>by rw[←e,n1]at hh;cases hh
  show (zf m (qo _ _)).kind=_;rw[qQ,if_neg hne];exact (jM hs.has).1
theorem JW {k z:zV} {ks:List zV}:z∈qP k ks↔z=k∨z∈ks:=QW
theorem kN {w':qH} {x:zl} (h:qO w x) (h1:zk x.ino w'.fs.xs=false) (h2:w.fs.next<=w'.fs.next) (h3:∀ k∈w.kept,k∈w'.kept):qO w' x:=by
 obtain ⟨q1,q2,q3,q4,q5,q6,q7,q8,q9,q10⟩:=h;refine ⟨h1,q2,by omega,q4,q5,q6,q7,q8,q9,?_⟩;rw[Or]at q10 ⊢;obtain ⟨k,hk,e⟩:=q10;exact ⟨k,h3 k hk,e⟩
theorem zpA (hi:Q9 w) (h:yt w) {n:Int} (h1:1<=n) (h2:n<=1073741824) {s:zK} (hs:zM w.fs s) (he:(zf s.ino w.fs.xs).es = []):yt (XL w n s).1:=by
 have hI:=zfb hi (n:=n) hs he;unfold XL at hI ⊢;cases hn:MZ n w.kept with
 | true=>rw[if_pos rfl];exact h
 | false =>
  rw[hn,if_neg (by simp)]at hI;rw[if_neg (by simp)];have hh:=zM.ino hi.fs hs;have hx:=zi hh;have hnd:=h.fs.node _ hx.2.1;have hr:=zkt hi.fs h.fs hs he;have hhas:=VD hs.has hh;have hnp:zk s.ino w.pool=false:=by
   rw[Oq];intro hq;have:=(hi.apart _ (zi hq).2.1).1;rw[(zi hq).2.2,hh]at this;cases this
  have hgk:∀ m,zk m (zI w.fs s).xs=true->(zf m (zI w.fs s).xs).kind=(zf m w.fs.xs).kind:=fun m hm=>by
   unfold zI at hm ⊢;by_cases hl:(zf s.ino w.fs.xs).links-1=0
   ·rw[if_pos hl]at hm ⊢;have hm:zk m (qh _ _)=true:=hm;show (zf m (qh _ _)).kind=_;rw[Qh]at hm;rw[kV,if_neg (fun e=>by rw[e]at hm;simp at hm)];exact (jM hs.has).1
   ·rw[if_neg hl];show (zf m (qo _ _)).kind=_;rw[qQ];split
    ·rename_i e;have e:(zf s.ino w.fs.xs).ino=m:=e;rw[hx.2.2]at e;subst e;rfl
    ·exact (jM hs.has).1
  by_cases hl:(zf s.ino w.fs.xs).links=1
  ·rw[if_pos hl]at hI ⊢;have hhp:∀ m,zk m (qo { zf s.ino w.fs.xs with links:=0,parent:=0 } w.pool)=(decide (s.ino=m)||zk m w.pool):=fun m=>by
    rw[ja];show (decide ((zf s.ino w.fs.xs).ino=m)||_)=_;rw[hx.2.2]
   refine ⟨hr,fun x hxx=>?_,fun k hk=>?_,fun k hk=>?_⟩
   ·have ha:=(hI.apart x hxx).1;rcases qE.1 hxx with rfl | ⟨hxp,_⟩
    ·have hir:=hi.fs.ino _ hx.2.1;refine ⟨ha,hir.1,by show _<(zI w.fs s).next;rw[YH];exact hir.2,rfl,rfl,he,hi.fs.kind (zf s.ino w.fs.xs) hx.2.1,hnd.bare,hnd.lnk,?_⟩;rw[Or];refine ⟨_,JW.2 (.inl rfl),?_⟩;show (decide (s.ino=(zf s.ino w.fs.xs).ino)&&!false)=true;rw[hx.2.2];simp
    ·exact kN (h.pool x hxp) ha (by show w.fs.next<=(zI w.fs s).next;rw[YH];exact O7 _) fun k hk=>JW.2 (.inr hk)
   ·rcases JW.1 hk with rfl | hk
    ·exact h1
    ·exact h.slots k hk
   ·rcases JW.1 hk with rfl | hk
    ·exact ⟨h2,.inr (by show zk s.ino _=true;rw[hhp];simp),fun q=>(by cases q),fun _=>rfl⟩
    ·obtain ⟨q1,q2,q3,q4⟩:=h.kept k hk;refine ⟨q1,?_,fun hc=>?_,q4⟩
     ·show zk k.ino (zI w.fs s).xs=true∨zk k.ino _=true;rw[hhp,hhas,if_pos (by omega)];by_cases e:k.ino=s.ino
      ·right;rw[e];simp
      ·rcases q2 with q2 | q2
       ·left;rw[q2,Wi e];rfl
       ·right;rw[q2,BA]
     ·have:=q3 hc;show (if zk k.ino _=true then zf k.ino _ else zf k.ino (zI w.fs s).xs).kind=1;by_cases e:s.ino=k.ino
      ·rw[if_pos (by rw[hhp,Wl e];rfl),qQ,if_pos (by rw[←e];exact hx.2.2)];rw[←e,hnp,if_neg (by simp)]at this;exact this
      ·rw[hhp,Wi e,OZ];have e5:zf k.ino (qo { zf s.ino w.fs.xs with links:=0,parent:=0 } w.pool)=zf k.ino w.pool:=by
        rw[qQ];exact if_neg fun q=>e (hx.2.2.symm.trans q)
       rw[e5];by_cases hq:zk k.ino w.pool=true
       ·rw[if_pos hq]at this ⊢;exact this
       ·rw[if_neg hq]at this ⊢;have q5:=q2.resolve_right hq;rw[hgk _ (by rw[hhas,if_pos (by omega),q5,Wi (fun q=>e q.symm)];rfl)];exact this
  ·rw[if_neg hl]at hI ⊢;have hall:∀ m,zk m (zI w.fs s).xs=zk m w.fs.xs:=fun m=>by rw[hhas,if_neg (by omega)]
   refine ⟨hr,fun x hxx=>?_,fun k hk=>?_,fun k hk=>?_⟩
   ·exact kN (h.pool x hxx) (hI.apart x hxx).1 (by show w.fs.next<=(zI w.fs s).next;rw[YH];exact O7 _) fun k hk=>JW.2 (.inr hk)
   ·rcases JW.1 hk with rfl | hk
    ·exact h1
    ·exact h.slots k hk
   ·rcases JW.1 hk with rfl | hk
    ·exact ⟨h2,.inl (by show zk s.ino (zI w.fs s).xs=true;rw[hall];exact hh),fun q=>(by cases q),fun _=>rfl⟩
    ·obtain ⟨q1,q2,q3,q4⟩:=h.kept k hk;refine ⟨q1,?_,fun hc=>?_,q4⟩
     ·show zk k.ino (zI w.fs s).xs=true∨_;rw[hall];exact q2
     ·have:=q3 hc;show (if zk k.ino w.pool=true then zf k.ino w.pool else zf k.ino (zI w.fs s).xs).kind=1;by_cases hq:zk k.ino w.pool=true
      ·rw[if_pos hq]at this ⊢;exact this
      ·rw[if_neg hq]at this ⊢;rw[hgk _ (by rw[hall];exact q2.resolve_right hq)];exact this
theorem zkG {i:Int} {t:Lz} (hh:zk i f.xs=true) (m:Int):zk m (Qe f i t).xs=zk m f.xs/\(zf m (Qe f i t).xs).kind=(zf m f.xs).kind:=by
 have hx:=zi hh;constructor
 ·show zk m (qo _ _)=_;rw[ja];show (decide ((zf i f.xs).ino=m)||_)=_;rw[hx.2.2];by_cases e:i=m
  ·subst e;rw[hh];simp
  ·simp[e]
 ·show (zf m (qo _ _)).kind=_;rw[qQ];split
  ·rename_i e;have e:(zf i f.xs).ino=m:=e;rw[hx.2.2]at e;subst e;rfl
  ·rfl
theorem zfY (hi:Q9 w) (h:yt w) {o:OpV} (ha:zT o.a=true) (hb:zT o.b=true) (h1:1<=o.slot) (h2:o.slot<=1073741824):yt (qL w o).1:=by
 unfold qL;by_cases z1:(qd w.fs o.a).2≠0
 ·rw[if_pos z1];exact h
 rw[if_neg z1];by_cases z2:(qd w.fs o.b).2≠0
 ·rw[if_pos z2];exact h
 rw[if_neg z2];by_cases z3:(qd w.fs o.a).1.ino=(qd w.fs o.b).1.ino
 ·rw[if_pos z3];exact h
 rw[if_neg z3];by_cases z4:(qF w o.slot (qd w.fs o.b).1.ino).2≠0
 ·rw[if_pos z4];exact h
 rw[if_neg z4];by_cases z5:(Xx w.fs (qd w.fs o.b).1.ino (qd w.fs o.a).1.data).2≠0
 ·rw[if_pos z5];exact h
 rw[if_neg z5];obtain ⟨f1,f2,f3⟩:=Zn hi.fs hb (WE.1 z2);generalize (qd w.fs o.b).1.ino=i at *;generalize (qd w.fs o.a).1.data=t at *;have hk1:(zf i w.fs.xs).kind=1:=by rw[←f3];exact f2
 have hnp:zk i w.pool=false:=by
  rw[Oq];intro hq;have:=(hi.apart _ (zi hq).2.1).1;rw[(zi hq).2.2,f1]at this;cases this
 have e1:(qF w o.slot i).1 = { w with kept:=qP ⟨o.slot,i,true,(zf i w.fs.xs).data⟩ w.kept }:=by
  unfold qF at z4 ⊢;split
  ·rename_i hq;rw[if_pos hq]at z4;exact absurd (show (13:Int)≠0 by decide) z4
  ·rfl
 have hr:JS w.fs 0 ((t.length:Int)-(zf i w.fs.xs).data.length)=true:=by
  unfold Xx at z5;cases hq:JS w.fs 0 ((t.length:Int)-(zf i w.fs.xs).data.length) with
  | true=>rfl
  | false=>rw[hq,if_neg (by simp)]at z5;exact absurd (show (8:Int)≠0 by decide) z5
 have e2:(Xx w.fs i t).1=Qe w.fs i t:=by unfold Xx;rw[if_pos hr]
 rw[e1,e2];show yt ⟨Qe w.fs i t,qP ⟨o.slot,i,true,(zf i w.fs.xs).data⟩ w.kept,w.pool⟩;have hg:=zkG (t:=t) f1;refine ⟨zqz hi.fs h.fs f1 hk1 hr,fun x hx=>?_,fun k hk=>?_,fun k hk=>?_⟩
 ·exact kN (h.pool x hx) (by show zk x.ino (Qe w.fs i t).xs=false;rw[(hg _).1];exact (hi.apart x hx).1) (O7 _) fun k hk=>JW.2 (.inr hk)
 ·rcases JW.1 hk with rfl | hk
  ·exact h1
  ·exact h.slots k hk
 ·rcases JW.1 hk with rfl | hk
  ·refine ⟨h2,.inl (by show zk i (Qe w.fs i t).xs=true;rw[(hg _).1];exact f1),fun _=>?_,fun q=>(by cases q)⟩;show (if zk i w.pool=true then zf i w.pool else zf i (Qe w.fs i t).xs).kind=1;rw[hnp,if_neg (by simp),(hg i).2];exact hk1
  ·obtain ⟨q1,q2,q3,q4⟩:=h.kept k hk;refine ⟨q1,?_,fun hc=>?_,q4⟩
   ·show zk k.ino (Qe w.fs i t).xs=true∨_;rw[(hg _).1];exact q2
   ·have:=q3 hc;show (if zk k.ino w.pool=true then zf k.ino w.pool else zf k.ino (Qe w.fs i t).xs).kind=1;by_cases hq:zk k.ino w.pool=true
    ·rw[if_pos hq]at this ⊢;exact this
    ·rw[if_neg hq]at this ⊢;rw[(hg _).2];exact this
end
section
theorem zle (hf:FsI f) {p:Lz} (hp:zT p=true) {b:Bool} (h:(isV f p b).2.2=0):may (isV f p b).1.name=true:=by
 have h1:=(zgs hf hp (QF h)).2.2.2;unfold zT jK at hp;simp only[Wo]at hp;exact Ws.1 hp.1.2 _ h1
theorem ziR {o:OpV} (h:UL o=true):(Zh o.kind=true->1<=o.slot/\o.slot<=1073741824)/\(o.kind=4->YQ o.d=true)/\(o.kind=6->Xy o.b o.a=false):=by
 unfold UL at h;simp only[Wo,WR]at h;obtain ⟨⟨⟨⟨⟨⟨h1,h2⟩,h3⟩,h4⟩,h5⟩,h6⟩,h7⟩:=h;refine ⟨fun q=>?_,fun q=>?_,fun q=>?_⟩
 ·rw[if_pos q]at h4;simpa using h4
 ·rw[if_pos q]at h6;exact h6
 ·rw[Wl q]at h7;simp at h7;exact h7.2
theorem zdU {t:Lz} (h:YQ t=true):1<=t.length/\t.length<=4095/\∀ b∈t,b≠0:=by
 unfold YQ at h;simp only[Wo,OY,Of,WR]at h;obtain ⟨⟨h1,h2⟩,h3⟩:=h;refine ⟨WI.2 h1,h2,fun b hb e=>?_⟩;rw[Oh]at h3;exact h3 b hb (by simpa using e)
theorem zj1 {s:zK} (hs:jr f s) {i:Int} (hh:zk i f.xs=true) (m:Int):zk m (Q4 f s i).xs=zk m f.xs/\(zf m (Q4 f s i).xs).kind=(zf m f.xs).kind:=by
 have hx:=zi hh;constructor
 ·show zk m (qo _ _)=_;rw[ja,zQ hs.has];show (decide ((zf i f.xs).ino=m)||_)=_;rw[hx.2.2];by_cases e:i=m
  ·subst e;rw[hh];simp
  ·simp[e]
 ·show (zf m (qo _ _)).kind=_;rw[qQ];split
  ·rename_i e;have e:(zf i f.xs).ino=m:=e;rw[hx.2.2]at e;subst e;rfl
  ·exact (jM hs.has).1
theorem UH (hi:FsI f) {a b:zK} (ha:zM f a) (hb:jr f b) (m:Int):zk m (JG f a b).xs=zk m f.xs/\(zf m (JG f a b).xs).kind=(zf m f.xs).kind:=by
 have hb1:zk b.dir (ql a.dir (zj a.name) f.xs)=true:=by rw[zQ ha.has];exact hb.has
 have hh:∀ m,zk m (ql b.dir (zL b.name a.ino) (ql a.dir (zj a.name) f.xs))=zk m f.xs:=fun m=>by rw[zQ hb1,zQ ha.has]
 have hg:=uH ha hb;unfold JG;simp only;generalize ql b.dir (zL b.name a.ino) (ql a.dir (zj a.name) f.xs)=g at hh hg;split
 ·have hx:=zi (show zk a.ino g=true by rw[hh];exact zM.ino hi ha);constructor
  ·show zk m (qo _ _)=_;rw[ja];show (decide ((zf a.ino g).ino=m)||_)=_;rw[hx.2.2,hh];by_cases e:a.ino=m
   ·subst e;rw[zM.ino hi ha];simp
   ·simp[e]
  ·show (zf m (qo _ _)).kind=_;rw[qQ];split
   ·rename_i e;have e:(zf a.ino g).ino=m:=e;rw[hx.2.2]at e;subst e;exact (hg _).1
   ·exact (hg m).1
 ·exact ⟨hh m,(hg m).1⟩
theorem zua (hi:Q9 w) (h:yt w) (o:OpV) (hk7:o.kind<=7):yt (doV w o).1:=by
 unfold doV;cases hm:UL o with
 | false=>exact h
 | true =>
  obtain ⟨p1,p2,k1,_⟩:=QJ hm;obtain ⟨m1,m2,m3⟩:=ziR hm;rw[if_neg (by simp)];by_cases h1:o.kind=1
  ·rw[if_pos h1];exact zfa hi h p1 (.inr (.inl rfl)) (fun _=>rfl) (fun q=>by cases q)
  rw[if_neg h1];by_cases h2:o.kind=2
  ·rw[if_pos h2];unfold Jk;split
   ·exact h
   ·exact zfa hi h (p2 (by rw[h2];rfl)) (.inl rfl) (fun q=>by cases q) (fun q=>by cases q)
  rw[if_neg h2];by_cases h3:o.kind=3
  ·rw[if_pos h3];obtain ⟨q1,q2⟩:=m1 (by rw[h3];rfl);exact zfY hi h p1 (p2 (by rw[h3];rfl)) q1 q2
  rw[if_neg h3];by_cases h4:o.kind=4
  ·rw[if_pos h4];exact zfa hi h p1 (.inr (.inr rfl)) (fun q=>by cases q) (fun _=>zdU (m2 h4))
  rw[if_neg h4];by_cases h5:o.kind=5
  ·rw[if_pos h5];have pb:=p2 (by rw[h5];rfl);unfold jZ;simp only;by_cases z1:(isV w.fs o.a true).2.2≠0
   ·rw[if_pos z1];exact h
   rw[if_neg z1];obtain ⟨ht,hn⟩:=jB hi.fs p1 (WE.1 z1);by_cases z2:(isV w.fs o.a true).2.1.kind=2
   ·rw[if_pos z2];exact h
   rw[if_neg z2];by_cases z3:(isV w.fs o.b false).2.2≠0
   ·rw[if_pos z3];exact h
   rw[if_neg z3];have z3:=WE.1 z3;have hf:=Ju hi.fs pb z3;have hh:=zM.ino hi.fs ht;rw[hn]at z2 ⊢;rw[(zi hh).2.2];have hg:=zj1 hf hh;exact zrL h (zq0 hi.fs h.fs hf (zle hi.fs pb z3) hh z2) (O7 _) (fun x hx=>by rw[(hg _).1];exact (hi.apart x hx).1) fun m hmm=>⟨by rw[(hg _).1];exact hmm,(hg _).2⟩
  rw[if_neg h5];by_cases h6:o.kind=6
  ·rw[if_pos h6];have pb:=p2 (by rw[h6];rfl);unfold YO;by_cases z1:(isV w.fs o.a true).2.2≠0
   ·rw[if_pos z1];exact h
   rw[if_neg z1];by_cases z3:(isV w.fs o.b false).2.2≠0
   ·rw[if_pos z3];exact h
   rw[if_neg z3];have z1:=WE.1 z1;have z3:=WE.1 z3;have ht:=(jB hi.fs p1 z1).1;have hf:=Ju hi.fs pb z3;have hg:=UH hi.fs ht hf;refine zrL h (zqB hi.fs h.fs ht hf (zle hi.fs pb z3) fun hk=>zfi hi.fs h.fs p1 pb z1 z3 (m3 h6) hk) ?_ (fun x hx=>by rw[(hg _).1];exact (hi.apart x hx).1) fun m hmm=>⟨by rw[(hg _).1];exact hmm,(hg _).2⟩;unfold JG;simp only;split<;>exact O7 _
  rw[if_neg h6];have h7:o.kind=7:=by omega
  obtain ⟨q1,q2⟩:=m1 (by rw[h7];rfl);unfold jf;simp only;by_cases z1:(isV w.fs o.a true).2.2≠0
  ·rw[if_pos z1];exact h
  rw[if_neg z1];obtain ⟨ht,hn⟩:=jB hi.fs p1 (WE.1 z1);by_cases z2:(isV w.fs o.a true).2.1.es≠[]
  ·rw[if_pos z2];exact h
  rw[if_neg z2];exact zpA hi h q1 q2 ht (by rw[←hn];exact WE.1 z2)
theorem ko (w:qH) (p:Lz) (k:Int) (t:Lz):(JK w p k t).1.fs.next<=w.fs.next+1:=by
 unfold JK;split
 ·show w.fs.next<=_;omega
 ·show (kw w.fs (isV w.fs p false).1 k t).1.next<=_;rcases QQ w.fs (isV w.fs p false).1 k t with e | e
  ·rw[e];omega
  ·rw[e];exact O7 _
theorem znN (w:qH) (o:OpV):(doV w o).1.fs.next<=w.fs.next+1:=by
 have h0:w.fs.next<=w.fs.next+1:=by omega
 unfold doV;split
 ·exact h0
 split
 ·exact ko ..
 split
 ·unfold Jk;split
  ·exact h0
  ·exact ko ..
 split
 ·unfold qL;split
  ·exact h0
  split
  ·exact h0
  split
  ·exact h0
  split
  ·exact h0
  split
  ·exact h0
  ·show (Xx w.fs _ _).1.next<=_;unfold Xx;split<;>exact h0
 split
 ·exact ko ..
 split
 ·unfold jZ;simp only;split
  ·exact h0
  split
  ·exact h0
  split
  ·exact h0
  ·exact h0
 split
 ·unfold YO;split
  ·exact h0
  split
  ·exact h0
  ·show (JG w.fs _ _).next<=_;unfold JG;simp only;split<;>exact h0
 ·unfold jf;simp only;split
  ·exact h0
  split
  ·exact h0
  ·unfold XL;split
   ·exact h0
   ·show (zI w.fs _).next<=_;rw[YH];exact h0
end
section
inductive ziM (w:qH):List OpV->qH->Prop
 | nil:ziM w [] w
 | snoc {l:List OpV} {v:qH} {o:OpV}:ziM w l v->(doV v o).2=0->ziM w (l++[o]) (doV v o).1
structure ztT (w:qH) (d:zF):Prop where
 run:ziM w d.ops d.w
 may:∀ o∈d.ops,UL o=true/\o.kind<=7
 rise:(zlI d.ops).Pairwise (· < ·)
 over:∀ s∈zlI d.ops,Jr w.kept<s/\s<=d.slot
 last:Jr w.kept<=d.slot
 stat:(d.status=1)↔d.diags≠[]
 right:yt d.w
end
section
theorem zg8 (hi:FsI f) {ns:List Lz} {y:Int} (h:JP f.xs ns y):∃ d nm,∀ r,atW f.xs (ns++r) ⟨0,[],1⟩=atW f.xs r ⟨d,nm,y⟩:=by
 induction h with
 | root=>exact ⟨0,[],fun r=>rfl⟩
 | step h1 h2 h3 h4 ih =>
  rename_i ns y n m;obtain ⟨d,nm,ih⟩:=ih;refine ⟨y,m,fun r=>?_⟩;rw[WL,ih];show atW f.xs (m :: r) ⟨d,nm,y⟩=_;have hne:y≠0:=Qj hi h2;have e1:(zf y f.xs).ino=y:=(zi h2).2.2;have e2:zY m (zf y f.xs).es=n:=by unfold zY;rw[h4]
  rw[atW,if_neg hne,if_neg (fun q=>q h3),e1,e2]
theorem xF {f:FsV} (h:okM f):∀ (m:Nat) (n:Int) (ns:List Lz),JP f.xs ns n->∀ p∈qX f.xs m n ns,JP f.xs p.1 p.2.ino
 | 0,n,ns,hl,p,hp=>by unfold qX at hp;cases hp
 | m+1,n,ns,hl,p,hp=>by
  unfold qX at hp;split at hp
  ·rename_i hh;rcases WJ.1 hp with rfl | hp
   ·show JP f.xs ns (zf n f.xs).ino;rw[(zi hh).2.2];exact hl
   ·obtain ⟨e,he,hp⟩:=Ag.1 hp;have hi:=Qk h.2;refine xF h m e.ino _ (.step hl hh (Uf h hh he) ?_) p hp;have hR:=hi.es _ (zi hh).2.1;have hx:YM e.name (zf n f.xs).es=true:=by
     unfold YM JZ;rw[Or];exact ⟨e,he,by simp⟩
    have h2:=Yy hx;have h3:=qm h2;have:(⟨e.name,zY e.name (zf n f.xs).es⟩:zN)=e:=by
     obtain ⟨i,hi',ei⟩:=Wx h3.2;obtain ⟨j,hj',ej⟩:=Wx he;have hp:=WO.1 hR;rcases O9 i j with q | q | q
     ·have:=hp i j hi' hj' q;rw[ei,ej]at this;exact absurd this (by show ¬Op.bytesLess e.name e.name=true;rw[Ya];simp)
     ·subst q;rw[←ei,ej]
     ·have:=hp j i hj' hi' q;rw[ei,ej]at this;exact absurd this (by show ¬Op.bytesLess e.name e.name=true;rw[Ya];simp)
    rw[h2];have e2:zY e.name (zf n f.xs).es=e.ino:=Wv zN.ino this;rw[e2]
  ·cases hp
theorem GQ (h:okM f) {n:Int} (hh:zk n f.xs=true) (hk:(zf n f.xs).kind=2):∃ ns,(∀ z∈ns,may z=true)/\XR n (trV f.xs 1 [])=some (zH ns)/\JP f.xs ns n:=by
 obtain ⟨h0,h1,_⟩:=qN h;have hkk:∀ p∈trV f.xs 1 [],p.2.ino=n->p.2.kind=2:=fun p hp hpn=>by
  obtain ⟨_,q⟩:=kC hp;rw[hpn]at q;rw[←q];exact hk
 obtain ⟨p,hp⟩:=UU (YD h _ 1 [] h1.2.2.2.2.2.2.2.1) hkk (zgc h hh);obtain ⟨q,q1,q2⟩:=Mo h hh hk;have hq:Zq n (trV f.xs 1 []) = [zH p.1]:=by unfold Zq;rw[hp];rfl
 rw[hq]at q1;have hqe:zH p.1=q:=by simpa using q1
 have hpf:p∈(trV f.xs 1 []).filter (fun p=>decide (p.2.ino=n)):=by rw[hp];exact WT.2 rfl
 obtain ⟨hpm,hpn⟩:=Ox.1 hpf;obtain ⟨zs,z1,z2⟩:=Nw (kZ h).1 _ 1 [] p hpm;rw[Om]at z1;rw[←z1]at z2;have hl:=xF h _ 1 [] .root p hpm;have hpn:p.2.ino=n:=by simpa using hpn
 rw[hpn]at hl;exact ⟨p.1,z2,by rw[q2,hqe],hl⟩
theorem Ht (hi:FsI f) {ns:List Lz} {n:Int} (hl:JP f.xs ns n) (hh:zk n f.xs=true) (hk:(zf n f.xs).kind=2) (hn:∀ z∈ns,may z=true) {m:Lz} (hm:may m=true):zT (zH (ns++[m]))=true/\atV f (zH (ns++[m]))=(⟨n,m,zY m (zf n f.xs).es⟩,0):=by
 have hall:∀ z∈ns++[m],may z=true:=fun z hz=>by
  rcases WB.1 hz with hz | hz
  ·exact hn z hz
  ·rw[WT.1 hz];exact hm
 have hnm:=XM (ns++[m]) fun z hz=>jO (hall z hz);have hp:jK (zH (ns++[m]))=true:=by
  unfold jK;rw[hnm,Wl rfl,Oj,Ws];exact hall
 refine ⟨by unfold zT;rw[hp,hnm];simp,?_⟩;unfold atV;rw[if_pos hp,hnm];obtain ⟨d,nm,hw⟩:=zg8 hi hl;rw[hw];have hne:n≠0:=Qj hi hh;rw[atW,if_neg hne,if_neg (fun q=>q hk),(zi hh).2.2]
 rfl
end
section
abbrev Vt:=List Lz
def onL (f:FsV) (follow:Bool) (lk:zl->zl->Vt->Bool->zK×Int):Vt->zK->Bool->zK×Int
 | [],s,dir=>if zk s.ino f.xs=true/\dir=true/\(zf s.ino f.xs).kind≠2 then (js,3) else (s,0)
 | n :: r,s,dir =>
  if s.ino=0 then (js,1)
  else if (zf s.ino f.xs).kind≠2 then (js,3)
  else if n = [46] then onL f follow lk r ⟨0,[],(zf s.ino f.xs).ino⟩ dir
  else if n = [46,46] then onL f follow lk r ⟨0,[],(zf s.ino f.xs).parent⟩ dir
  else if YM n (zf s.ino f.xs).es=false∨(zf (zY n (zf s.ino f.xs).es) f.xs).kind≠3∨(r = []/\follow=false/\dir=false) then
   onL f follow lk r ⟨(zf s.ino f.xs).ino,n,zY n (zf s.ino f.xs).es⟩ dir
  else lk (zf (zY n (zf s.ino f.xs).es) f.xs) (zf s.ino f.xs) r dir
def jJ (p:Lz):Bool:=!decide (zn p = [])&&Lib.hasSuffix p [47]
def yz (p:Lz):Bool:=Lib.hasPrefix p [47]
def onN (f:FsV) (follow:Bool):Nat->Vt->zK->Bool->zK×Int
 | 0=>onL f follow fun _ _ _ _=>(js,6)
 | k+1=>onL f follow fun x d r dir=>if VZ x.data then (js,7) else onN f follow k (zn x.data++r) ⟨0,[],if yz x.data then 1 else d.ino⟩ (dir||(jJ x.data&&decide (r = [])))
def ZY (f:FsV) (b:Lz):Int×Int:=
 if (atV f b).2≠0 then (0,(atV f b).2) else if (atV f b).1.ino=0 then (0,1) else if (zf (atV f b).1.ino f.xs).kind≠2 then (0,3) else ((zf (atV f b).1.ino f.xs).ino,0)
def J8 (f:FsV) (p:Lz):zl×Int:=if (atV f p).2≠0 then (zaG,(atV f p).2) else if (atV f p).1.ino=0 then (zaG,1) else (zf (atV f p).1.ino f.xs,0)
def zr (f:FsV) (b p:Lz) (follow:Bool):zK×Int:=
 if p = [] then (js,1) else if VZ p then (js,7)
 else if yz p then onN f follow 40 (zn p) ⟨0,[],1⟩ (jJ p)
 else if (ZY f b).2≠0 then (js,(ZY f b).2) else onN f follow 40 (zn p) ⟨0,[],(ZY f b).1⟩ (jJ p)
theorem zk4 (h:(zf n xs).kind=2):zk n xs=true:=by
 cases hh:zk n xs with
 | true=>rfl
 | false=>rw[(J4 hh).2]at h;exact absurd h (by decide)
def lkN (f:FsV) (follow:Bool):Nat->zl->zl->Vt->Bool->zK×Int
 | 0=>fun _ _ _ _=>(js,6)
 | k+1=>fun x d r dir=>if VZ x.data then (js,7) else onN f follow k (zn x.data++r) ⟨0,[],if yz x.data then 1 else d.ino⟩ (dir||(jJ x.data&&decide (r = [])))
theorem Gt (f:FsV) (follow:Bool) (k:Nat):onN f follow k=onL f follow (lkN f follow k):=by cases k<;>rfl
theorem QP (f:FsV) (follow:Bool) (k:Nat) (x d:zl) (r:Vt) (dir:Bool):lkN f follow (k+1) x d r dir=if VZ x.data then (js,7) else onN f follow k (zn x.data++r) ⟨0,[],if yz x.data then 1 else d.ino⟩ (dir||(jJ x.data&&decide (r = []))):=rfl
end
section
open Go.RowKit
section
variable {G:zq}
end
end
section
open Go.RowKit
def UD (x:zl):Bool:=decide (x.kind=3)&&decide (300<(x.data.length:Int))
def ZU (f:FsV) (b p:Lz):Bool:=!((f.xs.take 100).any UD)&&decide ((b.length:Int)<=1000)&&decide ((p.length:Int)<=5000)
theorem zdf (f:FsV) (b p:Lz):Fun Tryz.prog G0 36 [.agg (fsC f),.str b,.str p] (jb (ZU f b p)) 0:=by
 have hll:(zt f.xs).length=f.xs.length:=We ..;refine fon Tryz.func36 ?_;dsimp only[Tryz.f36];push_cast;refine loop (fun i:Nat=>⟨[(1,.str b),(2,.str p),(3,.ptr 0 0),(7,.sc (.int .i64 i))],[fsC f],0,0⟩) (fun i=>i<=100/\∀ t (h:t<f.xs.length),t<i->UD f.xs[t]=false) (fun i=>100-i) 0 ⟨Wd _,fun t h h'=>absurd h' (Oe _)⟩ ?_ ?_
 ·exact wk
 ·rintro i ⟨h1,h2⟩;have hend:¬(i<f.xs.length/\i<100)->(f.xs.take 100).any UD=false:=fun h=>by
   rw[Oh];intro x hx;obtain ⟨t,ht,rfl⟩:=Wx hx;rw[W2]at ht;rw[List.getElem_take,h2 t (by omega) (by omega)];decide
  have stop:¬(i<f.xs.length/\i<100)->(decide ((b.length:Int)<=1000)&&decide ((p.length:Int)<=5000))=ZU f b p:=fun h=>by
   unfold ZU;rw[hend h];rfl
  by_cases h:i<f.xs.length
  ·by_cases h100:i<100
   ·have g1:=ju f.xs i h;have h100':(i:Int)<100:=by omega
    have hm:f.xs[i]∈f.xs.take 100:=by
     rw[Az];exact ⟨i,by omega,rfl⟩
    have next:UD f.xs[i]=false->∀ t (h:t<f.xs.length),t<i+1->UD f.xs[t]=false:=fun q t ht hlt=>by
     rcases Wp t i with r | r
     ·exact h2 t ht r
     ·have:t=i:=by omega
      subst this;exact q
    by_cases hk:f.xs[i].kind=3
    ·by_cases hd:300<(f.xs[i].data.length:Int)
     ·have hn:ZU f b p=false:=by
       have:(f.xs.take 100).any UD=true:=Or.2 ⟨_,hm,by unfold UD;rw[Wl hk,Wl hd];rfl⟩;unfold ZU;rw[this];rfl
      push_cast [hll,h,h100',g1,hk,hd]
      repeat refine an ?_
      exact dn (by push_cast [ze,zd,CLe,zh,hn])
     ·have hq:UD f.xs[i]=false:=by unfold UD;rw[Wi hd,O4]
      push_cast [hll,h,h100',g1,hk,hd]
      repeat refine an ?_
      exact ⟨i+1,⟨by omega,next hq⟩,by omega,wk⟩
    ·have hq:UD f.xs[i]=false:=by unfold UD;rw[Wi hk,W6]
     push_cast [hll,h,h100',g1,hk]
     repeat refine an ?_
     exact ⟨i+1,⟨by omega,next hq⟩,by omega,wk⟩
   ·have h100':((i:Int)<100)=False:=WG (by omega);have:=(stop (by omega)).symm;by_cases hb:(b.length:Int)<=1000
    ·rw[Wl hb,Oj]at this;push_cast [hll,h,h100',hb];exact dn (by push_cast [ze,zd,CLe,zh,this])
    ·rw[Wi hb,W6]at this;push_cast [hll,h,h100',hb];exact dn (by push_cast [ze,zd,CLe,zh,this])
  ·have:=(stop (by omega)).symm;by_cases hb:(b.length:Int)<=1000
   ·rw[Wl hb,Oj]at this;push_cast [hll,h,hb];exact dn (by push_cast [ze,zd,CLe,zh,this])
   ·rw[Wi hb,W6]at this;push_cast [hll,h,hb];exact dn (by push_cast [ze,zd,CLe,zh,this])
end
section
theorem zmz (hi:FsI f) (hr:FsR f) {n:Int} (hh:zk n f.xs=true) (hk:(zf n f.xs).kind=2):zk (zf n f.xs).parent f.xs=true:=by
 have g:=zi hh;by_cases h1:n=1
 ·rw[(hr.node _ g.2.1).top (by rw[g.2.2];exact h1)];exact hi.root
 ·have hl:=(hr.node _ g.2.1).named (by rw[g.2.2];exact h1);rw[FsR.links hi g.2.1,g.2.2]at hl;obtain ⟨p,hp⟩:=uQ (n:=n) (l:=qn f.xs) (by omega);obtain ⟨y,hy,e,he,q1,q2⟩:=VE.1 hp;obtain ⟨rk,hed⟩:=hr.edge;have:=(hed y hy e he (by rw[q1];exact hk)).1;rw[q1]at this;rw[this];exact Yp hy
end
section
def HC (xs:List zl):Prop:=∀ x∈xs,x.kind=3->x.data.length<=1000
theorem GX (h:HC xs) (n:Int):(zf n xs).kind=3->(zf n xs).data.length<=1000:=fun hk=>by
 cases hh:zk n xs with
 | true=>exact h _ (zi hh).2.1 hk
 | false=>rw[(J4 hh).2]at hk;exact absurd hk (by decide)
theorem kQ {x:zl} (h:HC xs) (hx:x.kind=3->x.data.length<=1000):HC (qo x xs):=fun z hz hk=>by
 rcases zmk hz with rfl | hz
 ·exact hx hk
 ·exact h z hz hk
theorem zgZ (h:zk n xs=false):zf n xs=zaG:=by unfold zf;rw[(J4 h).1];rfl
end
section
theorem kj (h:HC xs) (n:Int) (F:List zN->List zN):HC (ql n F xs):=kQ h (GX h n)
theorem NZ (h:HC w.fs.xs) {p:Lz} {k:Int} {t:Lz} (ht:k=3->t.length<=1000):HC (JK w p k t).1.fs.xs:=by
 unfold JK;split
 ·exact h
 ·show HC (kw _ _ _ _).1.xs;rcases QQ w.fs (isV w.fs p false).1 k t with e | e
  ·rw[e];exact h
  ·rw[e];exact kQ (kj h _ _) ht
theorem zcN (s:zK) (h:HC f.xs):HC (zI f s).xs:=by
 have hd:HC (ql s.dir (zj s.name) f.xs):=kj h _ _;unfold zI;split
 ·exact fun z hz hk=>hd z (Xo.1 hz).1 hk
 ·exact kQ hd (GX h s.ino)
theorem zjG (a b:zK) (h:HC f.xs):HC (JG f a b).xs:=by
 have hd:=kj (kj h a.dir (zj a.name)) b.dir (zL b.name a.ino);unfold JG;simp only;split
 ·exact kQ hd (GX hd a.ino)
 ·exact hd
theorem zp6 (h:HC w.fs.xs) (o:OpV) (hd:o.d.length<=1000) (h3:o.kind≠3):HC (doV w o).1.fs.xs:=by
 unfold doV;by_cases c0:(!UL o)=true
 ·rw[if_pos c0];exact h
 rw[if_neg c0];by_cases c1:o.kind=1
 ·rw[if_pos c1];exact NZ h fun q=>by cases q
 rw[if_neg c1];by_cases c2:o.kind=2
 ·rw[if_pos c2];unfold Jk;split
  ·exact h
  ·exact NZ h fun q=>by cases q
 rw[if_neg c2,if_neg h3];by_cases c4:o.kind=4
 ·rw[if_pos c4];exact NZ h fun _=>hd
 rw[if_neg c4];by_cases c5:o.kind=5
 ·rw[if_pos c5];unfold jZ;simp only;split
  ·exact h
  split
  ·exact h
  split
  ·exact h
  ·exact kQ (kj h _ _) (GX h _)
 rw[if_neg c5];by_cases c6:o.kind=6
 ·rw[if_pos c6];unfold YO;split
  ·exact h
  split
  ·exact h
  ·exact zjG _ _ h
 rw[if_neg c6];unfold jf;simp only;split
 ·exact h
 split
 ·exact h
 ·unfold XL;split
  ·exact h
  ·exact zcN _ h
structure GrD (N:Nat) (d:zF):Prop where
 b:Ub N d
 r:yt d.w
 next:d.w.fs.next<=549755813888+N
 dat:HC d.w.fs.xs
theorem MN.mono {M:Nat} (h:MN N w) (hN:N<=M):MN M w:=by
 have key:∀ x,U7 N x->U7 M x:=fun x hx=>⟨WN hx.1 hN,hx.2⟩;exact ⟨WN h.len hN,fun x hx=>key x (h.node x hx),WN h.klen hN,h.kdata,WN h.plen hN,fun x hx=>key x (h.pnode x hx),by have:=h.next;omega,h.room⟩
theorem GrD.mono {M:Nat} (h:GrD N d) (hN:N<=M):GrD M d:=
 ⟨⟨h.b.wi,h.b.wb.mono (by omega),WN h.b.ops hN,WN h.b.diags hN,h.b.slot.1,by have:=h.b.slot.2;omega⟩,h.r,by have:=h.next;omega,h.dat⟩
theorem GrD.add (h:GrD N d) {o:OpV} (ho:o.d.length<=1000) (h3:o.kind≠3):GrD (N+1) (jP d o).1:=by
 have hB:=zoQ h.b (o:=o) (by omega);by_cases hz:(jP d o).2=0
 case neg=>rw[MH hz]at hB ⊢;exact ⟨hB,h.r,by have:=h.next;omega,h.dat⟩
 unfold jP at hz hB ⊢;split at hz
 ·exact absurd hz (show ¬(12:Int)=0 by decide)
 rename_i hk;rw[if_neg hk]at hB ⊢;split at hz
 ·rename_i hd;exact absurd hz hd
 rename_i hd;rw[if_neg hd]at hB ⊢;have hk7:(X4 d o).kind<=7:=by show o.kind<=7;omega
 have hn:=znN d.w (X4 d o);have hx:=h.next;exact ⟨hB,zua h.b.wi h.r _ hk7,by show (doV d.w (X4 d o)).1.fs.next<=_;omega,zp6 h.dat _ ho h3⟩
theorem GrD.ok (h:GrD N d) (hN:N<=3200):okM d.w.fs:=
 ⟨⟨by have:=h.b.wb.len;omega,fun x hx=>by obtain ⟨q1,q2,q3⟩:=h.b.wb.node x hx;exact ⟨q2,by omega,q3⟩⟩,h.r.fs.check h.b.wi.fs (by have:=h.next;omega)⟩
theorem zlr (h:okW w) (hd:HC w.fs.xs) (hn:w.fs.next<=549755813888) (hl:Jr w.kept<=536870912):GrD 0 (J7 w):=
 ⟨⟨zsW h,No h,Wb _,Wb _,(UX h.2.2.2.2.1).1,by show Jr w.kept<=_;omega⟩,zsY h,by show w.fs.next<=_;omega,hd⟩
theorem UV (h:okM f) {s:zK} (hh:zk s.dir f.xs=true) (hk:(zf s.dir f.xs).kind=2) (hm:may s.name=true):(qu f s).length<=990000:=by
 obtain ⟨ns,n1,n2,n3,n4,n5⟩:=zly h hh hk;have hml:=ky hm;have hjw:=QE ns;have hjl:(zH ns).length<=980001:=by unfold zH;split<;>simp<;>omega
 have e:qu f s=Jp (zH ns) s.name:=by unfold qu;rw[n5];rfl
 have:=xW (zH ns) s.name;rw[e];omega
end
section
def ZL (f:FsV) (b p:Lz):Bool:=decide ((zr f b p true).2=0)&&decide ((zf (zr f b p true).1.ino f.xs).kind=2)
def zfI (f:FsV) (b:Lz) (k:Int) (o p:Lz):Bool:=decide (k=3)&&decide ((110:UInt8)∈o)&&decide ((zr f b p false).2=0)&&decide ((zf (zr f b p false).1.ino f.xs).kind=3)
def zdu (f:FsV) (b:Lz) (k:Int) (o:Lz) (ops:List Lz):Bool:=
 !decide (ops.length<2)&&!decide ((84:UInt8)∈o)&&!zfI f b k o (ops.getLastD [])&&ZL f b (ops.getLastD [])
def Yi (f:FsV) (b:Lz) (k:Int) (o:Lz) (ops:List Lz):Option (List Lz):=
 if ops.length=1 then some [Vk (ops.headD [])] else if zdu f b k o ops then some (ops.dropLast.map fun p=>Yx (ops.getLastD []) (Vk p))
 else if ops.length=2 then some [ops.getLastD []] else none
theorem zn0 (p:Lz):(Vk p).length<=p.length+1:=by
 unfold Vk;rcases Ba (zn p) with e | ⟨l,x,e⟩
 ·rw[e];show (if Lib.hasPrefix p [47] then [47] else ([]:Lz)).length<=_;split<;>simp
 ·have:=(Hs p).2 x (by rw[e,AV];simp);rw[e,AV,List.getLastD_concat];omega
def vB (xs:List zl):Nat->Int->Int->Bool
 | 0,_,_=>false
 | m+1,d,o=>if d=o then true else if d=1 then false else vB xs m (zf d xs).parent o
end
section
structure zeU (b:Lz) (d:zF) (u pl v:Lz) (x:zl):Prop where
 g:∃ N,GrD N d/\N<=3000
 lu:u.length<=20000
 lp:pl.length<=20000
 lv:v.length<=6000
 es:x.es.length<=10000/\∀ e∈x.es,e.name.length<=1000
 data:x.data.length<=5000
 ok:(zr d.w.fs b v false).2=0
structure zpX (b:Lz) (d:zF) (v:Lz):Prop where
 has:zk (zr d.w.fs b v false).1.dir d.w.fs.xs=true
 kind:(zf (zr d.w.fs b v false).1.dir d.w.fs.xs).kind=2
 may:may (zr d.w.fs b v false).1.name=true
 not:zk (zr d.w.fs b v false).1.ino d.w.fs.xs=false
 slash:jJ v=false
abbrev yp (b:Lz) (d:zF) (v:Lz):Lz:=qu d.w.fs (zr d.w.fs b v false).1
inductive CpI (b o:Lz):zF->Lz->Lz->Lz->zl->zF->Prop
 | file {d:zF} {u pl v:Lz} {x:zl}:zeU b d u pl v x->zpX b d v->x.kind=1->(jP d ⟨2,0,pl,yp b d v,[]⟩).2=0->CpI b o d u pl v x (jP d ⟨2,0,pl,yp b d v,[]⟩).1
 | link {d:zF} {u pl v:Lz} {x:zl}:zeU b d u pl v x->zpX b d v->x.kind=3->(jP d ⟨4,0,yp b d v,[],x.data⟩).2=0->CpI b o d u pl v x (jP d ⟨4,0,yp b d v,[],x.data⟩).1
 | dir {d:zF} {u pl v:Lz} {x:zl} (D:Nat->zF):zeU b d u pl v x->zpX b d v->x.kind=2->vB d.w.fs.xs d.w.fs.xs.length (zr d.w.fs b v false).1.dir x.ino=false ->
   (jP d ⟨1,0,yp b d v,[],[]⟩).2=0->D 0=(jP d ⟨1,0,yp b d v,[],[]⟩).1->(∀ i,i<=x.es.length->∃ N,GrD N (D i)/\N<=3000) ->
   (∀ i (h:i<x.es.length),CpI b o (D i) (Yx u x.es[i].name) (Yx pl x.es[i].name) (Yx v x.es[i].name) (zf x.es[i].ino (D i).w.fs.xs) (D (i+1)))->CpI b o d u pl v x (D x.es.length)
 | self {d:zF} {u pl v:Lz} {x:zl}:zeU b d u pl v x->x.kind=2->zk (zr d.w.fs b v false).1.ino d.w.fs.xs=false->vB d.w.fs.xs d.w.fs.xs.length (zr d.w.fs b v false).1.dir x.ino=true ->
   u.length<=3000->v.length<=3000->CpI b o d u pl v x (JL d (JU 5 19 u v 0))
 | over {d:zF} {u pl v:Lz} {x:zl}:zeU b d u pl v x->x.kind=1->zk (zr d.w.fs b v false).1.ino d.w.fs.xs=true->(110:UInt8)∉o->(zr d.w.fs b v true).2=0->zk (zr d.w.fs b v true).1.ino d.w.fs.xs=true ->
   (zf (zr d.w.fs b v true).1.ino d.w.fs.xs).kind≠2->(zr d.w.fs b v true).1.ino≠x.ino->zk (zr d.w.fs b v true).1.dir d.w.fs.xs=true->(zf (zr d.w.fs b v true).1.dir d.w.fs.xs).kind=2->may (zr d.w.fs b v true).1.name=true ->
   (jP d ⟨3,0,pl,qu d.w.fs (zr d.w.fs b v true).1,[]⟩).2=0->CpI b o d u pl v x (jP d ⟨3,0,pl,qu d.w.fs (zr d.w.fs b v true).1,[]⟩).1
def YT (o:Lz):Bool:=!decide ((114:UInt8)∈o)&&!decide ((80:UInt8)∈o)
inductive CpS (b o:Lz) (d:zF) (u v:Lz):zF->Prop
 | shut:(∃ N,GrD N d/\N<=3000)->u.length<=3000->v.length<=3000->(zr d.w.fs b u (YT o)).2=0->zk (zr d.w.fs b u (YT o)).1.ino d.w.fs.xs=true->(zf (zr d.w.fs b u (YT o)).1.ino d.w.fs.xs).kind=2->(114:UInt8)∉o->CpS b o d u v (JL d (JU 5 16 u v 0))
 | tree {d':zF}:(∃ N,GrD N d/\N<=3000)->u.length<=6000->(zr d.w.fs b u (YT o)).2=0->zk (zr d.w.fs b u (YT o)).1.ino d.w.fs.xs=true->(zf (zr d.w.fs b u (YT o)).1.ino d.w.fs.xs).kind=2->(114:UInt8)∈o ->
   CpI b o d u ((XR (zr d.w.fs b u (YT o)).1.ino (trV d.w.fs.xs 1 [])).getD []) v (zf (zr d.w.fs b u (YT o)).1.ino d.w.fs.xs) d'->CpS b o d u v d'
 | leaf {d':zF}:(∃ N,GrD N d/\N<=3000)->u.length<=6000->(zr d.w.fs b u (YT o)).2=0->zk (zr d.w.fs b u (YT o)).1.ino d.w.fs.xs=true->(zf (zr d.w.fs b u (YT o)).1.ino d.w.fs.xs).kind≠2 ->
   zk (zr d.w.fs b u (YT o)).1.dir d.w.fs.xs=true->(zf (zr d.w.fs b u (YT o)).1.dir d.w.fs.xs).kind=2->may (zr d.w.fs b u (YT o)).1.name=true ->
   CpI b o d u (qu d.w.fs (zr d.w.fs b u (YT o)).1) v (zf (zr d.w.fs b u (YT o)).1.ino d.w.fs.xs) d'->CpS b o d u v d'
end
section
def low (xs:List zl):Nat->Int->Prop
 | 0,n=>(zf n xs).es = []
 | m+1,n=>∀ e∈(zf n xs).es,low xs m e.ino
structure zug (f g:FsV):Prop where
 es:∀ n e,e∈(zf n g.xs).es->e∈(zf n f.xs).es
 has:∀ n,zk n g.xs=true->zk n f.xs=true/\(zf n g.xs).kind=(zf n f.xs).kind
end
section
open CA CB
open Go.RowKit
end
section
open CA CB
open Go.RowKit
end
section
open CA CB
open Go.RowKit
theorem zcH (f:FsV) (hf:FsI f) (hs:FsS f) (p:Lz) (hp:p.length<=100000):Fun Tryz.prog G0 223 [.agg (fsC f),.str p] (.tup [.agg (Yw (J8 f p).1),.sc (.int .i64 (J8 f p).2)]) 0:=by
 have h1:=NY f hf hs p (by omega);have h2:=qr (G:=G0) f (atV f p).1.ino (by have:=hs.len;omega) hf.rises;by_cases c1:(atV f p).2=0
 ·have c1':=eq_true c1;cases hh:zk (atV f p).1.ino f.xs with
  | false =>
   have h0:(atV f p).1.ino=0:=Ay fun hne=>by
    have:zk (atV f p).1.ino f.xs=true:=by
     unfold atV at hne ⊢;split at hne
     ·rename_i q;rw[if_pos q];exact ub hf _ _ (fun _=>hf.root) hne
     ·exact absurd rfl hne
    rw[this]at hh;cases hh
   have e:J8 f p=(zaG,1):=by unfold J8;rw[if_neg (fun h=>h c1),if_pos h0]
   rw[c1]at h1;rw[hh]at h2;refine fon Tryz.func223 ?_;dsimp only[Tryz.f223];push_cast;refine cl h1 ?_;push_cast;refine cl h2 ?_;push_cast;exact dn (by push_cast [ze,zd,CLe,zh,e,zaG])
  | true =>
   have h0:=Qj hf hh;have e:J8 f p=(zf (atV f p).1.ino f.xs,0):=by unfold J8;rw[if_neg (fun h=>h c1),if_neg h0]
   rw[c1]at h1;rw[hh]at h2;refine fon Tryz.func223 ?_;dsimp only[Tryz.f223];push_cast;refine cl h1 ?_;push_cast;refine cl h2 ?_;push_cast;exact dn (by push_cast [ze,zd,CLe,zh,e])
 ·have e:J8 f p=(zaG,(atV f p).2):=by unfold J8;rw[if_pos c1]
  refine fon Tryz.func223 ?_;dsimp only[Tryz.f223];push_cast;refine cl h1 ?_;push_cast [c1];exact dn (by push_cast [ze,zd,CLe,zh,e,zaG])
theorem zhA (f:FsV) (hf:FsI f) (hs:FsS f) (p:Lz) (hp:p.length<=100000):Fun Tryz.prog G0 176 [.agg (fsC f),.str p] (.tup [.sc (.int .i64 (ZY f p).1),.sc (.int .i64 (ZY f p).2)]) 0:=by
 have h1:=zcH f hf hs p hp;by_cases c1:(J8 f p).2=0
 ·have d1:(atV f p).2=0/\(atV f p).1.ino≠0/\(J8 f p).1=zf (atV f p).1.ino f.xs:=by
   unfold J8 at c1 ⊢;split at c1
   ·rename_i h;exact absurd c1 h
   ·rename_i h;split at c1
    ·exact absurd c1 (show ¬(1:Int)=0 by decide)
    ·rename_i h';rw[if_neg h,if_neg h'];exact ⟨WE.1 h,h',rfl⟩
  rw[c1]at h1;by_cases c2:(J8 f p).1.kind=2
  ·have e:ZY f p=((J8 f p).1.ino,0):=by unfold ZY;rw[if_neg (fun h=>h d1.1),if_neg d1.2.1,if_neg (by rw[←d1.2.2];exact fun h=>h c2),d1.2.2]
   refine fon Tryz.func176 ?_;dsimp only[Tryz.f176];push_cast;refine cl h1 ?_;push_cast [c2];exact dn (by push_cast [ze,zd,CLe,zh,e])
  ·have e:ZY f p=(0,3):=by unfold ZY;rw[if_neg (fun h=>h d1.1),if_neg d1.2.1,if_pos (by rw[←d1.2.2];exact c2)]
   refine fon Tryz.func176 ?_;dsimp only[Tryz.f176];push_cast;refine cl h1 ?_;push_cast [c2];exact dn (by push_cast [ze,zd,CLe,zh,e])
 ·have e:ZY f p=(0,(J8 f p).2):=by
   unfold ZY J8;unfold J8 at c1;split
   ·rfl
   ·rename_i h;rw[if_neg h]at c1;split
    ·rfl
    ·rename_i h';rw[if_neg h']at c1;exact absurd rfl c1
  refine fon Tryz.func176 ?_;dsimp only[Tryz.f176];push_cast;refine cl h1 ?_;push_cast [c1];exact dn (by push_cast [ze,zd,CLe,zh,e])
theorem zeG {G:zq} (a b:List Lz) (la:a.length<=90000) (lb:b.length<=90000):Fun Tryz.prog G 70 [.sl 1 [[.sl 1 (qj a)],[.sl 1 (qj b)]]] (.sl 1 (qj (a++b))) 0:=by
 have hl:∀ l:List Lz,∀ r∈qj l,r.length=1:=fun l r hr=>by obtain ⟨x,_,rfl⟩:=WQ.1 hr;rfl
 have hs:∀ l:List Lz,jA (qj l):=fun l r hr=>by obtain ⟨x,_,rfl⟩:=WQ.1 hr;rfl
 have hla:(qj a).length=a.length:=We ..;have hlb:(qj b).length=b.length:=We ..;by_cases h0:0<a.length+b.length
 ·have h:=M8 (G:=G) (qj a) (qj b) (hl a) (hl b) (hs a) (hs b) (by omega) (by omega) (by omega);have e:qj a++qj b=qj (a++b):=W5.symm;rw[e]at h;refine (h.fun (r:=.own 0 9 1 (qj (a++b))) (n:=1) (by
   rintro r bx m ⟨rfl,c,B,hB,rfl,rfl⟩;exact ⟨[(0,9,1,qj (a++b),c)],[.inl 0],hB.ok rfl (by rw[We,Wn];exact h0) (hl _),rfl,rfl,by push_cast [ze,zd,CLe,zh,We]⟩)).weak (by push_cast [ze,zd,CLe,zh])
 ·have ha:a = []:=WV (by omega);have hb:b = []:=WV (by omega);subst ha hb;exact Mx
end
section
open CA CB
open Go.RowKit
abbrev zlp (f:FsV) (fol dir:Bool) (todo:Vt) (s:zK) (n:Int):List C:=[.sc (.int .i64 f.maxI),.sc (.int .i64 f.maxB),.sc (.int .i64 f.next),.sl 6 (zt f.xs),.sc (.bool fol),.sc (.bool dir),.sl 1 (qj todo),.sc (.int .i64 s.dir),.str s.name,.sc (.int .i64 s.ino),.sc (.int .i64 n)]
abbrev XZ:List C:=[.any,.any,.any,.any,.any,.any,.any,.any,.any,.any,.any]
theorem Nz (f:FsV) (fol dir:Bool) (todo:Vt) (s:zK) (n:Nat) (x d:zl) (hx:x.data.length<=10000) (ht:todo.length<=80000) (hn:n<=40):Xe Tryz.prog G0 178 [.ptr 0 0,.agg (Yw x),.agg (Yw d)] [zlp f fol dir todo s n] 0 (fun r bx m=>m=0 /\
  ((n=40/\r = .sc (.int .i64 6)/\bx = [XZ])∨(n<40/\VZ x.data=true/\r = .sc (.int .i64 7)/\bx = [XZ])∨(n<40/\VZ x.data=false/\r = .sc (.int .i64 0)/\bx = [zlp f fol (dir||(jJ x.data&&decide (todo = []))) (zn x.data++todo) ⟨0,[],if yz x.data then 1 else d.ino⟩ (n+1:Nat)]))):=by
 by_cases h40:n=40
 ·have hc:((40:Int)<(n:Int)+1)=True:=eq_true (by omega);refine foX (fun _=>[]) Tryz.func178 ?_;dsimp only[Tryz.f178];push_cast [hc]
  repeat refine an ?_
  exact ⟨_,[XZ],0,⟨⟨rfl,.inl ⟨h40,rfl,rfl⟩⟩,Wb _⟩,[],rfl,rfl,by push_cast [ze,zd,CLe,zh],by push_cast [ze,zd,CLe,zh]⟩
 have hc:((40:Int)<(n:Int)+1)=False:=WG (by omega);have hlg:=zaN x.data (by omega);cases hl:VZ x.data with
 | true =>
  rw[hl]at hlg;refine foX (fun _=>[]) Tryz.func178 ?_;dsimp only[Tryz.f178];push_cast [hc]
  repeat refine an ?_
  refine cl hlg ?_;push_cast;exact ⟨_,[XZ],0,⟨⟨rfl,.inr (.inl ⟨by omega,rfl,rfl⟩)⟩,Wb _⟩,[],rfl,rfl,by push_cast [ze,zd,CLe,zh],by push_cast [ze,zd,CLe,zh]⟩
 | false =>
  rw[hl]at hlg;have hrd:Fun Tryz.prog G0 125 [.str x.data] (.agg [jb (yz x.data),.own 0 9 1 (qj (zn x.data)),jb (jJ x.data)]) 1:=UR x.data (by omega);have hnl:=qW x.data;have hcc:=zeG (G:=G0) (zn x.data) todo (by omega) (by omega);have htl:(qj todo).length=todo.length:=We ..;have hte:((todo.length:Int)=0)=(todo = []):=propext ⟨fun h=>WV (by omega),fun h=>by rw[h];rfl⟩;generalize zn x.data=nm at hrd hcc;have fin:∀ (b a:Bool),(dir||(jJ x.data&&decide (todo = [])))=b->yz x.data=a->Xe Tryz.prog G0 178 [.ptr 0 0,.agg (Yw x),.agg (Yw d)] [zlp f fol dir todo s n] 0 (fun r bx m=>m=0/\r = .sc (.int .i64 0)/\bx = [zlp f fol b (nm++todo) ⟨0,[],if a then 1 else d.ino⟩ (n+1:Nat)]):=fun b a hb ha=>by
   rw[ha]at hrd;by_cases ht0:todo = []
   ·have ht0':=eq_true ht0;cases dir<;>cases hs:jJ x.data<;>rw[hs]at hrd hb<;>cases a
    all_goals
     simp[ht0]at hb;subst hb;refine foX (fun i=>if i=8 then [false,false,false,false,false,false,false,false,false,false,false,true] else []) Tryz.func178 ?_;dsimp only[Tryz.f178];push_cast [hc]
     repeat refine an ?_
     refine cl hlg ?_;push_cast;refine cl hrd ?_;push_cast [htl,hte,ht0'];refine cl hcc ?_;push_cast;exact ⟨_,_,0,⟨⟨rfl,rfl,rfl⟩,Wb _⟩,[],rfl,rfl,by push_cast [ze,zd,CLe,zh],by push_cast [ze,zd,CLe,zh]⟩
   ·have ht0':=WG ht0;cases dir<;>cases hs:jJ x.data<;>rw[hs]at hrd hb<;>cases a
    all_goals
     simp[ht0]at hb;subst hb;refine foX (fun i=>if i=8 then [false,false,false,false,false,false,false,false,false,false,false,true] else []) Tryz.func178 ?_;dsimp only[Tryz.f178];push_cast [hc]
     repeat refine an ?_
     refine cl hlg ?_;push_cast;refine cl hrd ?_;push_cast [htl,hte,ht0'];refine cl hcc ?_;push_cast;exact ⟨_,_,0,⟨⟨rfl,rfl,rfl⟩,Wb _⟩,[],rfl,rfl,by push_cast [ze,zd,CLe,zh],by push_cast [ze,zd,CLe,zh]⟩
  have h:=fin _ _ rfl rfl;exact ⟨h.1,fun R L vs a1 a2 a3 a4 a5 a6 a7=>(h.2 R L vs a1 a2 a3 a4 a5 a6 a7).mono fun _ _=>by
   rintro ⟨r,bx,m,⟨⟨q1,q2,q3⟩,q4⟩,q5⟩;exact ⟨r,bx,m,⟨⟨q1,.inr (.inr ⟨by omega,rfl,q2,q3⟩)⟩,q4⟩,q5⟩⟩
theorem ziq (f:FsV) (hf:FsI f) (hs:FsS f) (fol dir:Bool) (todo:Vt) (s:zK) (n:Nat) (lk:zl->zl->Vt->Bool->zK×Int):Xe Tryz.prog G0 179 [.ptr 0 0] [zlp f fol dir todo s n] 0 (fun r bx m=>m=0/\r = .tup [.agg (XN (onL f fol lk [] s dir).1),.sc (.int .i64 (onL f fol lk [] s dir).2)]/\bx = [XZ]):=by
 have hg:=qr (G:=G0) f s.ino (by have:=hs.len;omega) hf.rises;cases hh:zk s.ino f.xs with
 | false =>
  have e:onL f fol lk [] s dir=(s,0):=by unfold onL;rw[if_neg (fun h=>by rw[hh]at h;cases h.1)]
  rw[hh]at hg;refine foX (fun i=>if i=1 then JJ 13 14 else []) Tryz.func179 ?_;dsimp only[Tryz.f179];push_cast;refine cl hg ?_;push_cast;exact ⟨_,[XZ],0,⟨⟨rfl,rfl,rfl⟩,Wb _⟩,[],rfl,rfl,by push_cast [ze,zd,CLe,zh],by push_cast [ze,zd,CLe,zh,e]⟩
 | true =>
  rw[hh]at hg;cases dir with
  | false =>
   have e:onL f fol lk [] s false=(s,0):=by unfold onL;rw[if_neg (fun h=>by cases h.2.1)]
   refine foX (fun i=>if i=1 then JJ 13 14 else []) Tryz.func179 ?_;dsimp only[Tryz.f179];push_cast;refine cl hg ?_;push_cast;exact ⟨_,[XZ],0,⟨⟨rfl,rfl,rfl⟩,Wb _⟩,[],rfl,rfl,by push_cast [ze,zd,CLe,zh],by push_cast [ze,zd,CLe,zh,e]⟩
  | true =>
   by_cases hk:(zf s.ino f.xs).kind=2
   ·have e:onL f fol lk [] s true=(s,0):=by unfold onL;rw[if_neg (fun h=>h.2.2 hk)]
    have hk':=eq_true hk;refine foX (fun i=>if i=1 then JJ 13 14 else []) Tryz.func179 ?_;dsimp only[Tryz.f179];push_cast;refine cl hg ?_;push_cast [hk'];exact ⟨_,[XZ],0,⟨⟨rfl,rfl,rfl⟩,Wb _⟩,[],rfl,rfl,by push_cast [ze,zd,CLe,zh],by push_cast [ze,zd,CLe,zh,e]⟩
   ·have e:onL f fol lk [] s true=(js,3):=by unfold onL;rw[if_pos ⟨hh,rfl,hk⟩]
    have hk':=WG hk;refine foX (fun i=>if i=1 then JJ 13 14 else []) Tryz.func179 ?_;dsimp only[Tryz.f179];push_cast;refine cl hg ?_;push_cast [hk'];exact ⟨_,[XZ],0,⟨⟨rfl,rfl,rfl⟩,Wb _⟩,[],rfl,rfl,by push_cast [ze,zd,CLe,zh],by push_cast [ze,zd,CLe,zh,e,js]⟩
theorem zhc (f:FsV) (hf:FsI f) (hr:FsR f) (hs:FsS f) (fol dir0:Bool) (todo0:Vt) (s0:zK) (ht0:todo0.length<=6000) (hd:∀ x∈f.xs,x.kind=3->x.data.length<=1000) (hs0:s0.ino≠0->zk s0.ino f.xs=true) (R:zK×Int) (hR:onN f fol 40 todo0 s0 dir0=R):Xe Tryz.prog G0 147 [.ptr 0 0] [zlp f fol dir0 todo0 s0 (0:Nat)] 0 (fun r bx m=>m=0/\r = .tup [.agg (XN R.1),.sc (.int .i64 R.2)]/\∃ X,bx = [XZ]++X):=by
 refine foX (fun i=>if i=4 then JJ 13 14 else []) Tryz.func147 ?_;dsimp only[Tryz.f147];push_cast;refine loop (fun p:Vt×zK×Bool×Nat=>⟨[(0,.ptr 0 0),(2,.ptr 1 0)],[zlp f fol p.2.2.1 p.1 p.2.1 p.2.2.2,[.any,.any,.any]],0,0⟩)
  (fun p=>onN f fol (40-p.2.2.2) p.1 p.2.1 p.2.2.1=R/\p.2.2.2<=40/\p.1.length<=6000+p.2.2.2*1000/\(p.2.1.ino≠0->zk p.2.1.ino f.xs=true)) (fun p=>(41-p.2.2.2)*100000+p.1.length) (todo0,s0,dir0,0) ⟨hR,Wd _,by dsimp only;omega,hs0⟩ ?_ ?_
 ·exact wk
 rintro ⟨todo,s,dir,n⟩ ⟨hon,hn,htl,hin⟩;dsimp only at hon hn htl hin;rw[Gt]at hon;cases todo with
 | nil =>
  have he:=ziq f hf hs fol dir [] s n (lkN f fol (40-n));rw[hon]at he;push_cast;refine jU [0] [] he rfl (by decide) (by decide) (by simp) (by push_cast) rfl (fun r bx' m hp=>?_);obtain ⟨rfl,rfl,rfl⟩:=hp;push_cast;exact ⟨_,[XZ],0,⟨⟨rfl,rfl,[],rfl⟩,by simp⟩,[],rfl,rfl,by push_cast [ze,zd,CLe,zh],by push_cast [ze,zd,CLe,zh]⟩
 | cons nm rest =>
  have hg:=qr (G:=G0) f s.ino (by have:=hs.len;omega) hf.rises;have hpos:((0:Int)<(rest.length:Int)+1)=True:=eq_true (by omega);have hrl:(qj rest).length=rest.length:=We ..;have hl1:((1:Int)<=(rest.length:Int)+1)=True:=eq_true (by omega);rw[Wr]at htl;unfold onL at hon;cases hh:zk s.ino f.xs with
  | false =>
   have h0:s.ino=0:=Ay fun q=>by rw[hin q]at hh;cases hh
   rw[if_pos h0]at hon;rw[hh]at hg;rw[←hon];push_cast [hpos,hl1]
   repeat refine an ?_
   refine cl hg ?_;push_cast;exact ⟨_,[XZ],0,⟨⟨rfl,rfl,[],rfl⟩,by simp⟩,[],rfl,rfl,by push_cast [ze,zd,CLe,zh],by push_cast [ze,zd,CLe,zh,js]⟩
  | true =>
   have hgs:=zi hh;rw[if_neg (Qj hf hh)]at hon;rw[hh]at hg;by_cases hk2:(zf s.ino f.xs).kind=2
   case neg =>
    have hk2':=WG hk2;rw[if_pos hk2]at hon;rw[←hon];push_cast [hpos,hl1]
    repeat refine an ?_
    refine cl hg ?_;push_cast [hk2'];exact ⟨_,[XZ],0,⟨⟨rfl,rfl,[],rfl⟩,by simp⟩,[],rfl,rfl,by push_cast [ze,zd,CLe,zh],by push_cast [ze,zd,CLe,zh,js]⟩
   have hk2':=eq_true hk2;rw[if_neg (fun q=>q hk2)]at hon;by_cases n1:nm = [46]
   ·have n1':=eq_true n1;rw[if_pos n1]at hon;push_cast [hpos,hl1]
    repeat refine an ?_
    refine cl hg ?_;push_cast [hk2',n1'];exact ⟨(rest,⟨0,[],(zf s.ino f.xs).ino⟩,dir,n),⟨by dsimp only;rw[Gt];exact hon,hn,by dsimp only;omega,fun _=>by dsimp only;rw[hgs.2.2];exact hh⟩,by dsimp only;omega,wk⟩
   have n1':=WG n1;rw[if_neg n1]at hon;by_cases n2:nm = [46,46]
   ·have n2':=eq_true n2;rw[if_pos n2]at hon;push_cast [hpos,hl1]
    repeat refine an ?_
    refine cl hg ?_;push_cast [hk2',n1',n2'];exact ⟨(rest,⟨0,[],(zf s.ino f.xs).parent⟩,dir,n),⟨by dsimp only;rw[Gt];exact hon,hn,by dsimp only;omega,fun _=>zmz hf hr hh hk2⟩,by dsimp only;omega,wk⟩
   have n2':=WG n2;rw[if_neg n2]at hon;have hfd:=yg (G:=G0) (zf s.ino f.xs).es nm (by have:=hs.es hh;omega) (hf.es _ hgs.2.1);have hg2:=qr (G:=G0) f (zY nm (zf s.ino f.xs).es) (by have:=hs.len;omega) hf.rises;have hin2:zY nm (zf s.ino f.xs).es≠0->zk (zY nm (zf s.ino f.xs).es) f.xs=true:=fun q=>by
    have hx:YM nm (zf s.ino f.xs).es=true:=by
     unfold YM;rw[qx];cases hq:qM zN.name nm (zf s.ino f.xs).es with
     | some e=>rfl
     | none=>unfold zY at q;rw[hq]at q;exact absurd rfl q
    exact VI hf hh hx
   by_cases hk3:(zf (zY nm (zf s.ino f.xs).es) f.xs).kind=3
   case neg =>
    have hk3':=WG hk3;have hg1:((0:Int)<(rest.length:Int))=((0:Int)<(rest.length:Int)):=rfl;rw[if_pos (.inr (.inl hk3))]at hon;push_cast [hpos,hl1,hk2',n1',n2',hk3']
    repeat refine an ?_
    refine cl hg ?_;push_cast [hk2',n1',n2'];refine cl hfd ?_;push_cast;refine cl hg2 ?_;push_cast [hk3',hrl];exact ⟨(rest,⟨(zf s.ino f.xs).ino,nm,zY nm (zf s.ino f.xs).es⟩,dir,n),⟨by dsimp only;rw[Gt];exact hon,hn,by dsimp only;omega,hin2⟩,by dsimp only;omega,wk⟩
   have hk3':=eq_true hk3;have hx2:zk (zY nm (zf s.ino f.xs).es) f.xs=true:=by
    cases hq:zk (zY nm (zf s.ino f.xs).es) f.xs with
    | true=>rfl
    | false=>rw[(J4 hq).2]at hk3;exact absurd hk3 (by decide)
   have hxe:YM nm (zf s.ino f.xs).es=true:=by
    cases hq:YM nm (zf s.ino f.xs).es with
    | true=>rfl
    | false =>
     have e0:zY nm (zf s.ino f.xs).es=0:=by
      unfold zY;unfold YM at hq;rw[qx]at hq;cases hz:qM zN.name nm (zf s.ino f.xs).es with
      | none=>rfl
      | some e=>rw[hz]at hq;cases hq
     rw[e0]at hx2;exact absurd rfl (Qj hf hx2)
   have hxd:=hd _ (zi hx2).2.1 hk3;by_cases hr0:rest = []
   ·have hg1:((0:Int)<(rest.length:Int))=False:=WG (by rw[hr0];simp);cases fol with
    | false =>
     cases dir with
     | false =>
      rw[if_pos (.inr (.inr ⟨hr0,rfl,rfl⟩))]at hon;push_cast [hpos,hl1,hk2',n1',n2',hk3',hg1]
      repeat refine an ?_
      refine cl hg ?_;push_cast [hk2',n1',n2'];refine cl hfd ?_;push_cast;refine cl hg2 ?_;push_cast [hk3',hrl,hg1];exact ⟨(rest,⟨(zf s.ino f.xs).ino,nm,zY nm (zf s.ino f.xs).es⟩,false,n),⟨by dsimp only;rw[Gt];exact hon,hn,by dsimp only;omega,hin2⟩,by dsimp only;omega,wk⟩
     | true =>
      rw[if_neg (by rintro (q | q | q);exact absurd (hxe.symm.trans q) (by simp);exact q hk3;cases q.2.2)]at hon;have hlk:=Nz f false true rest s n (zf (zY nm (zf s.ino f.xs).es) f.xs) (zf s.ino f.xs) (by omega) (by omega) hn;push_cast [hpos,hl1,hk2',n1',n2',hk3',hg1]
      repeat refine an ?_
      refine cl hg ?_;push_cast [hk2',n1',n2'];refine cl hfd ?_;push_cast;refine cl hg2 ?_;push_cast [hk3',hrl,hg1];refine jU [0] [] hlk rfl (by decide) (by decide) (by simp) (by push_cast) (by push_cast) (fun r bx' m hp=>?_);obtain ⟨rfl,⟨q1,rfl,rfl⟩ | ⟨q1,q2,rfl,rfl⟩ | ⟨q1,q2,rfl,rfl⟩⟩:=hp
      ·push_cast;have hk0:40-n=0:=by omega
       rw[hk0]at hon;have hon:(js,(6:Int))=R:=hon;rw[←hon];exact ⟨_,[XZ],0,⟨⟨rfl,rfl,[],rfl⟩,by simp⟩,[],rfl,rfl,by push_cast [ze,zd,CLe,zh],by push_cast [ze,zd,CLe,zh,js]⟩
      ·push_cast;have hk0:40-n=(39-n)+1:=by omega
       rw[hk0,QP,if_pos q2]at hon;rw[←hon];exact ⟨_,[XZ],0,⟨⟨rfl,rfl,[],rfl⟩,by simp⟩,[],rfl,rfl,by push_cast [ze,zd,CLe,zh],by push_cast [ze,zd,CLe,zh,js]⟩
      ·push_cast;have hk0:40-n=(39-n)+1:=by omega
       have hk1:40-(n+1)=39-n:=by omega
       rw[hk0,QP,if_neg (by rw[q2];simp)]at hon;have hnl:=qW (zf (zY nm (zf s.ino f.xs).es) f.xs).data;exact ⟨(zn (zf (zY nm (zf s.ino f.xs).es) f.xs).data++rest,⟨0,[],if yz (zf (zY nm (zf s.ino f.xs).es) f.xs).data then 1 else (zf s.ino f.xs).ino⟩,true||(jJ (zf (zY nm (zf s.ino f.xs).es) f.xs).data&&decide (rest = [])),n+1),⟨by dsimp only;rw[hk1];exact hon,by dsimp only;omega,by dsimp only;rw[Wn];omega,fun _=>by
        dsimp only;split
        ·exact hf.root
        ·rw[hgs.2.2];exact hh⟩,by dsimp only;rw[Wn];omega,wk⟩
    | true =>
     rw[if_neg (by rintro (q | q | q);exact absurd (hxe.symm.trans q) (by simp);exact q hk3;cases q.2.1)]at hon;have hlk:=Nz f true dir rest s n (zf (zY nm (zf s.ino f.xs).es) f.xs) (zf s.ino f.xs) (by omega) (by omega) hn;push_cast [hpos,hl1,hk2',n1',n2',hk3',hg1]
     repeat refine an ?_
     refine cl hg ?_;push_cast [hk2',n1',n2'];refine cl hfd ?_;push_cast;refine cl hg2 ?_;push_cast [hk3',hrl,hg1];refine jU [0] [] hlk rfl (by decide) (by decide) (by simp) (by push_cast) (by push_cast) (fun r bx' m hp=>?_);obtain ⟨rfl,⟨q1,rfl,rfl⟩ | ⟨q1,q2,rfl,rfl⟩ | ⟨q1,q2,rfl,rfl⟩⟩:=hp
     ·push_cast;have hk0:40-n=0:=by omega
      rw[hk0]at hon;have hon:(js,(6:Int))=R:=hon;rw[←hon];exact ⟨_,[XZ],0,⟨⟨rfl,rfl,[],rfl⟩,by simp⟩,[],rfl,rfl,by push_cast [ze,zd,CLe,zh],by push_cast [ze,zd,CLe,zh,js]⟩
     ·push_cast;have hk0:40-n=(39-n)+1:=by omega
      rw[hk0,QP,if_pos q2]at hon;rw[←hon];exact ⟨_,[XZ],0,⟨⟨rfl,rfl,[],rfl⟩,by simp⟩,[],rfl,rfl,by push_cast [ze,zd,CLe,zh],by push_cast [ze,zd,CLe,zh,js]⟩
     ·push_cast;have hk0:40-n=(39-n)+1:=by omega
      have hk1:40-(n+1)=39-n:=by omega
      rw[hk0,QP,if_neg (by rw[q2];simp)]at hon;have hnl:=qW (zf (zY nm (zf s.ino f.xs).es) f.xs).data;exact ⟨(zn (zf (zY nm (zf s.ino f.xs).es) f.xs).data++rest,⟨0,[],if yz (zf (zY nm (zf s.ino f.xs).es) f.xs).data then 1 else (zf s.ino f.xs).ino⟩,dir||(jJ (zf (zY nm (zf s.ino f.xs).es) f.xs).data&&decide (rest = [])),n+1),⟨by dsimp only;rw[hk1];exact hon,by dsimp only;omega,by dsimp only;rw[Wn];omega,fun _=>by
       dsimp only;split
       ·exact hf.root
       ·rw[hgs.2.2];exact hh⟩,by dsimp only;rw[Wn];omega,wk⟩
   ·have hg1:((0:Int)<(rest.length:Int))=True:=eq_true (by have:=WI.2 hr0;omega);rw[if_neg (by rintro (q | q | q);exact absurd (hxe.symm.trans q) (by simp);exact q hk3;exact hr0 q.1)]at hon;have hlk:=Nz f fol dir rest s n (zf (zY nm (zf s.ino f.xs).es) f.xs) (zf s.ino f.xs) (by omega) (by omega) hn;push_cast [hpos,hl1,hk2',n1',n2',hk3',hg1]
    repeat refine an ?_
    refine cl hg ?_;push_cast [hk2',n1',n2'];refine cl hfd ?_;push_cast;refine cl hg2 ?_;push_cast [hk3',hrl,hg1];refine jU [0] [] hlk rfl (by decide) (by decide) (by simp) (by push_cast) (by push_cast) (fun r bx' m hp=>?_);obtain ⟨rfl,⟨q1,rfl,rfl⟩ | ⟨q1,q2,rfl,rfl⟩ | ⟨q1,q2,rfl,rfl⟩⟩:=hp
    ·push_cast;have hk0:40-n=0:=by omega
     rw[hk0]at hon;have hon:(js,(6:Int))=R:=hon;rw[←hon];exact ⟨_,[XZ],0,⟨⟨rfl,rfl,[],rfl⟩,by simp⟩,[],rfl,rfl,by push_cast [ze,zd,CLe,zh],by push_cast [ze,zd,CLe,zh,js]⟩
    ·push_cast;have hk0:40-n=(39-n)+1:=by omega
     rw[hk0,QP,if_pos q2]at hon;rw[←hon];exact ⟨_,[XZ],0,⟨⟨rfl,rfl,[],rfl⟩,by simp⟩,[],rfl,rfl,by push_cast [ze,zd,CLe,zh],by push_cast [ze,zd,CLe,zh,js]⟩
    ·push_cast;have hk0:40-n=(39-n)+1:=by omega
     have hk1:40-(n+1)=39-n:=by omega
     rw[hk0,QP,if_neg (by rw[q2];simp)]at hon;have hnl:=qW (zf (zY nm (zf s.ino f.xs).es) f.xs).data;exact ⟨(zn (zf (zY nm (zf s.ino f.xs).es) f.xs).data++rest,⟨0,[],if yz (zf (zY nm (zf s.ino f.xs).es) f.xs).data then 1 else (zf s.ino f.xs).ino⟩,dir||(jJ (zf (zY nm (zf s.ino f.xs).es) f.xs).data&&decide (rest = [])),n+1),⟨by dsimp only;rw[hk1];exact hon,by dsimp only;omega,by dsimp only;rw[Wn];omega,fun _=>by
      dsimp only;split
      ·exact hf.root
      ·rw[hgs.2.2];exact hh⟩,by dsimp only;rw[Wn];omega,wk⟩
end
section
open CA CB
open Go.RowKit
theorem Jv (f:FsV) (hf:FsI f) (hr:FsR f) (hs:FsS f) (hd:∀ x∈f.xs,x.kind=3->x.data.length<=1000) (b p:Lz) (fol:Bool) (hb:b.length<=100000) (hp:p.length<=6000):Fun Tryz.prog G0 99 [.agg (fsC f),.str b,.str p,.sc (.bool fol)] (.tup [.agg (XN (zr f b p fol).1),.sc (.int .i64 (zr f b p fol).2)]) 0:=by
 have hlo:=zaN p (by omega);have hns:=qW p;have bad:∀ e:Int,e≠0->zr f b p fol=(js,e)->Fun Tryz.prog G0 146 [.agg (fsC f),.str b,.str p,.sc (.bool fol)] (.tup [.any,.sc (.int .i64 e)]) 0->Fun Tryz.prog G0 99 [.agg (fsC f),.str b,.str p,.sc (.bool fol)] (.tup [.agg (XN (zr f b p fol).1),.sc (.int .i64 (zr f b p fol).2)]) 0:=fun e he hv hb=>by
  refine fon Tryz.func99 ?_;dsimp only[Tryz.f99];push_cast;refine cl hb ?_;push_cast [he];exact dn (by push_cast [ze,zd,CLe,zh,hv,js])
 by_cases h1:p = []
 ·subst h1;refine bad 1 (by decide) (by unfold zr;rw[if_pos rfl]) ?_;refine fon Tryz.func146 ?_;dsimp only[Tryz.f146];push_cast;exact dn
 have h1':=WG h1;cases h2:VZ p with
 | true =>
  rw[h2]at hlo;refine bad 7 (by decide) (by unfold zr;rw[if_neg h1,if_pos h2]) ?_;refine fon Tryz.func146 ?_;dsimp only[Tryz.f146];push_cast [h1'];refine cl hlo ?_;push_cast;exact dn
 | false =>
 rw[h2]at hlo;have hre:Fun Tryz.prog G0 125 [.str p] (.agg [jb (yz p),.own 0 9 1 (qj (zn p)),jb (jJ p)]) 1:=UR p (by omega);have good:∀ h:Int,zr f b p fol=onN f fol 40 (zn p) ⟨0,[],h⟩ (jJ p)->(h≠0->zk h f.xs=true)->Xe Tryz.prog G0 146 [.agg (fsC f),.str b,.str p,.sc (.bool fol)] [] 0 (fun r bx m=>m=0/\r = .tup [.ptr 2 0,.sc (.int .i64 0)]/\bx = [[.any,.any,.any,.any],[.any,.any,.any],zlp f fol (jJ p) (zn p) ⟨0,[],h⟩ (0:Nat)])->Fun Tryz.prog G0 99 [.agg (fsC f),.str b,.str p,.sc (.bool fol)] (.tup [.agg (XN (zr f b p fol).1),.sc (.int .i64 (zr f b p fol).2)]) 0:=fun h hv hh hbg=>by
  have hgo:=zhc f hf hr hs fol (jJ p) (zn p) ⟨0,[],h⟩ (by omega) hd hh _ hv.symm;refine fon Tryz.func99 ?_;dsimp only[Tryz.f99];push_cast;refine jU [] [] hbg rfl (by decide) (by decide) (by simp) (by push_cast) rfl (fun r bx' m hp=>?_);obtain ⟨rfl,rfl,rfl⟩:=hp;push_cast;refine jU [4] [] hgo rfl (by decide) (by decide) (by simp) (by push_cast) rfl (fun r bx' m hp=>?_);obtain ⟨rfl,rfl,X,rfl⟩:=hp;push_cast;exact dn
 cases h3:yz p with
 | true =>
  rw[h3]at hre;refine good 1 (by unfold zr;rw[if_neg h1,if_neg (by rw[h2];decide),if_pos h3]) (fun _=>hf.root) ?_;refine foX (fun _=>[]) Tryz.func146 ?_;dsimp only[Tryz.f146];push_cast [h1'];refine cl hlo ?_;push_cast;refine cl hre ?_;push_cast;exact ⟨_,[_,_,_],0,⟨⟨rfl,rfl,rfl⟩,Wd _⟩,[],rfl,rfl,by push_cast [ze,zd,CLe,zh],by push_cast [ze,zd,CLe,zh]⟩
 | false =>
  rw[h3]at hre;have hh:=zhA f hf hs b hb;by_cases h4:(ZY f b).2=0
  ·rw[h4]at hh;refine good (ZY f b).1 (by unfold zr;rw[if_neg h1,if_neg (by rw[h2];decide),if_neg (by rw[h3];decide),if_neg (fun q=>q h4)]) (fun hne=>?_) ?_
   ·unfold ZY at hne h4 ⊢;split at hne
    ·exact absurd rfl hne
    rename_i c1;rw[if_neg c1]at h4 ⊢;split at hne
    ·exact absurd rfl hne
    rename_i c2;rw[if_neg c2]at h4 ⊢;split at hne
    ·exact absurd rfl hne
    rename_i c3;rw[if_neg c3];have q:=zk4 (WE.1 c3);rw[(zi q).2.2];exact q
   ·refine foX (fun _=>[]) Tryz.func146 ?_;dsimp only[Tryz.f146];push_cast [h1'];refine cl hlo ?_;push_cast;refine cl hre ?_;push_cast;refine cl hh ?_;push_cast;exact ⟨_,[_,_,_],0,⟨⟨rfl,rfl,rfl⟩,Wd _⟩,[],rfl,rfl,by push_cast [ze,zd,CLe,zh],by push_cast [ze,zd,CLe,zh]⟩
  ·refine bad _ h4 (by unfold zr;rw[if_neg h1,if_neg (by rw[h2];decide),if_neg (by rw[h3];decide),if_pos h4]) ?_;refine fon Tryz.func146 ?_;dsimp only[Tryz.f146];push_cast [h1'];refine cl hlo ?_;push_cast;refine cl hre ?_;push_cast;refine cl hh ?_;push_cast [h4];exact dn
end
section
open CA CB
open Go.RowKit QuotePlain
abbrev u8C (b:UInt8):C:=.sc (.int .u8 (b.toNat:Int))
theorem Ng (l:Lz) (c:UInt8):(Lib.indexByte l c<0)↔c∉l:=by
 constructor
 ·intro h hc;have h1:=Lib.indexByte_ge l c;obtain ⟨k,hk,e⟩:=Wx hc;exact Lib.indexByte_none (show Lib.indexByte l c = -1 by omega) k (by rw[Wa hk,e])
 ·intro h;rcases Int.lt_or_le (Lib.indexByte l c) 0 with h1 | h1
  ·exact h1
  ·obtain ⟨o,ho⟩:∃ o:Nat,Lib.indexByte l c=o:=⟨(Lib.indexByte l c).toNat,by omega⟩;obtain ⟨h2,_⟩:=Lib.indexByte_some ho;exact absurd (Wf h2) h
theorem kE (k:Int) (o:Lz) (ops:C) (c:UInt8) (hops:ops.cellB=true):Fun Tryz.prog G0 98 [.agg [.sc (.int .i64 k),.str o,ops],u8C c] (.sc (.bool (decide (c∈o)))) 0:=by
 refine fon Tryz.func98 ?_;dsimp only[Tryz.f98];push_cast [hops];refine cl (ZS o c) ?_;push_cast;have e:decide (0<=Lib.indexByte o c)=decide (c∈o):=by
  have:=Ng o c;by_cases h:c∈o
  ·have h2:¬Lib.indexByte o c<0:=fun h3=>this.1 h3 h;simp[h];omega
  ·have h2:=this.2 h;simp[h];omega
 exact dn (by push_cast [ze,zd,CLe,zh,e])
structure zuh where
 kind:Int
 opts:Lz
 operands:List Lz
end
section
open CA CB
open Go.RowKit
abbrev zoK (k:Int) (o:Lz) (ops:List Lz):List C:=[.sc (.int .i64 k),.str o,.sl 1 (qj ops)]
theorem zgo (d:zF) (hd:d.diags.length<=80000) (k w:Int) (a b:Lz) (e:Int) (ha:a.length<=3000) (hb:b.length<=3000):Fun Tryz.prog GD 40 [HE d,.sc (.int .i64 k),.sc (.int .i64 w),.str a,.str b,.sc (.int .i64 e)] (HE (JL d (JU k w a b e))) 0:=
 (zhE d hd k w a b e ha hb).weak (by push_cast [ze,zd,CLe,zh,JL])
end
section
open CA CB
open Go.RowKit
theorem zjM {b p:Lz} (h:zk (zr f b p true).1.ino f.xs=false):ZL f b p=false:=by
 unfold ZL;rw[zgZ h,Ai];exact .inr rfl
theorem zjf (f:FsV) (hf:FsI f) (hr:FsR f) (hs:FsS f) (hd:HC f.xs) (b p:Lz) (hb:b.length<=100000) (hp:p.length<=3000):Fun Tryz.prog G0 114 [.agg (fsC f),.str b,.str p] (.sc (.bool (ZL f b p))) 0:=by
 have hsk:=Jv f hf hr hs hd b p true hb (by omega);have hg:=qr (G:=G0) f (zr f b p true).1.ino (by have:=hs.len;omega) hf.rises;have e:ZL f b p=(decide ((zr f b p true).2=0)&&decide ((zf (zr f b p true).1.ino f.xs).kind=2)):=rfl;have hno:=zjM (f:=f) (b:=b) (p:=p);by_cases h1:(zr f b p true).2=0
 ·have h1':=eq_true h1;rw[Wl h1,Oj]at e;cases hh:zk (zr f b p true).1.ino f.xs with
  | false =>
   rw[hh]at hg;rw[hno hh];refine fon Tryz.func114 ?_;dsimp only[Tryz.f114];push_cast;refine cl hsk ?_;push_cast [h1'];refine cl hg ?_;push_cast [h1'];exact dn
  | true =>
   rw[hh]at hg;rw[e];refine fon Tryz.func114 ?_;dsimp only[Tryz.f114];push_cast;refine cl hsk ?_;push_cast [h1'];refine cl hg ?_;push_cast [h1'];exact dn
 ·have h1':=WG h1;rw[Wi h1,W6]at e;rw[e];refine fon Tryz.func114 ?_;dsimp only[Tryz.f114];push_cast;refine cl hsk ?_;push_cast [h1'];refine cl hg ?_;push_cast [h1'];exact dn
theorem Ne {ops:List Lz} (h:0<ops.length):ops[ops.length-1]?=some (ops.getLastD []):=by
 rcases Ba ops with e | ⟨l,x,e⟩
 ·rw[e]at h;exact absurd h (Nat.lt_irrefl 0)
 ·rw[e,AV,List.getLastD_concat];simp
theorem zjd (f:FsV) (hf:FsI f) (hr:FsR f) (hs:FsS f) (hd:HC f.xs) (b:Lz) (hb:b.length<=100000) (k:Int) (o:Lz) (ops:List Lz) (hn:ops.length<=1000) (hp:∀ x∈ops,x.length<=1000):Fun Tryz.prog G0 68 [.agg (fsC f),.str b,.agg (zoK k o ops)] (.sc (.bool (zdu f b k o ops))) 0:=by
 have hll:(qj ops).length=ops.length:=We ..;have e:zdu f b k o ops=(!decide (ops.length<2)&&!decide ((84:UInt8)∈o)&&!zfI f b k o (ops.getLastD [])&&ZL f b (ops.getLastD [])):=rfl;have h84:=kE k o (.sl 1 (qj ops)) 84 rfl;have h110:=kE k o (.sl 1 (qj ops)) 110 rfl;by_cases c1:ops.length<2
 ·have c1':=eq_true (show (ops.length:Int)<2 by omega);rw[Wl c1]at e;rw[e];refine fon Tryz.func68 ?_;dsimp only[Tryz.f68];push_cast [hll,c1'];exact dn (by push_cast [ze,zd,CLe,zh,AP,W6])
 have c1':=WG (show ¬(ops.length:Int)<2 by omega);rw[Wi c1]at e;by_cases c2:(84:UInt8)∈o
 ·rw[Wl c2]at e h84;rw[e];refine fon Tryz.func68 ?_;dsimp only[Tryz.f68];push_cast [hll,c1'];refine cl h84 ?_;push_cast;exact dn (by push_cast [ze,zd,CLe,zh,AP,W6,O4])
 rw[Wi c2]at e h84;have hlg:=Ne (ops:=ops) (by omega);have hla:(qj ops)[ops.length-1]?=some [.str (ops.getLastD [])]:=by rw[Wy,hlg];rfl
 have hlx:((ops.length:Int)-1).toNat=ops.length-1:=by omega
 have hll2:(ops.getLastD []).length<=1000:=hp _ (Wf hlg);have hdi:=zjf f hf hr hs hd b (ops.getLastD []) hb (by omega);have hsk:=Jv f hf hr hs hd b (ops.getLastD []) false hb (by omega);have hg:=qr (G:=G0) f (zr f b (ops.getLastD []) false).1.ino (by have:=hs.len;omega) hf.rises;have el:zfI f b k o (ops.getLastD [])=(decide (k=3)&&decide ((110:UInt8)∈o)&&decide ((zr f b (ops.getLastD []) false).2=0)&&decide ((zf (zr f b (ops.getLastD []) false).1.ino f.xs).kind=3)):=rfl;clear hlg;generalize ops.getLastD []=p at *;have hno:zk (zr f b p false).1.ino f.xs=false->(zf (zr f b p false).1.ino f.xs).kind≠3:=fun q=>by rw[zgZ q];exact show ¬(0:Int)=3 by decide
 generalize zr f b p false=T at *;by_cases c3:k=3
 ·have c3':=eq_true c3;by_cases c4:(110:UInt8)∈o
  ·rw[Wl c4]at h110 el;rw[Wl c3]at el;by_cases c5:T.2=0
   ·have c5':=eq_true c5;rw[Wl c5]at el;cases c6:zk T.1.ino f.xs with
    | false =>
     rw[c6]at hg;rw[Wi (hno c6)]at el;rw[el]at e;rw[e];refine fon Tryz.func68 ?_;dsimp only[Tryz.f68];push_cast [hll,c1'];refine cl h84 ?_;push_cast;push_cast [hll,hla,hlx,c3']
     repeat refine an ?_
     refine cl h110 ?_;push_cast;refine cl hsk ?_;push_cast [c5'];refine cl hg ?_;push_cast [c5'];refine cl hdi ?_;push_cast;exact dn (by push_cast [ze,zd,CLe,zh,O4,Ad,Oj])
    | true =>
     rw[c6]at hg;by_cases c7:(zf T.1.ino f.xs).kind=3
     ·have c7':=eq_true c7;rw[Wl c7]at el;rw[el]at e;rw[e];refine fon Tryz.func68 ?_;dsimp only[Tryz.f68];push_cast [hll,c1'];refine cl h84 ?_;push_cast;push_cast [hll,hla,hlx,c3']
      repeat refine an ?_
      refine cl h110 ?_;push_cast;refine cl hsk ?_;push_cast [c5'];refine cl hg ?_;push_cast [c5',c7'];exact dn (by push_cast [ze,zd,CLe,zh,Bk,AP,O4,W6])
     ·have c7':=WG c7;rw[Wi c7]at el;rw[el]at e;rw[e];refine fon Tryz.func68 ?_;dsimp only[Tryz.f68];push_cast [hll,c1'];refine cl h84 ?_;push_cast;push_cast [hll,hla,hlx,c3']
      repeat refine an ?_
      refine cl h110 ?_;push_cast;refine cl hsk ?_;push_cast [c5'];refine cl hg ?_;push_cast [c5',c7'];refine cl hdi ?_;push_cast;exact dn (by push_cast [ze,zd,CLe,zh,O4,Ad,Oj])
   ·have c5':=WG c5;rw[Wi c5,O4,W6]at el;rw[el]at e;rw[e];refine fon Tryz.func68 ?_;dsimp only[Tryz.f68];push_cast [hll,c1'];refine cl h84 ?_;push_cast;push_cast [hll,hla,hlx,c3']
    repeat refine an ?_
    refine cl h110 ?_;push_cast;refine cl hsk ?_;push_cast [c5'];refine cl hg ?_;push_cast [c5'];refine cl hdi ?_;push_cast;exact dn (by push_cast [ze,zd,CLe,zh,O4,Ad,Oj])
  ·rw[Wi c4]at h110 el;rw[O4,W6,W6]at el;rw[el]at e;rw[e];refine fon Tryz.func68 ?_;dsimp only[Tryz.f68];push_cast [hll,c1'];refine cl h84 ?_;push_cast;push_cast [hll,hla,hlx,c3']
   repeat refine an ?_
   refine cl h110 ?_;push_cast;refine cl hdi ?_;push_cast;exact dn (by push_cast [ze,zd,CLe,zh,O4,Ad,Oj])
 ·have c3':=WG c3;rw[Wi c3,W6,W6,W6]at el;rw[el]at e;rw[e];refine fon Tryz.func68 ?_;dsimp only[Tryz.f68];push_cast [hll,c1'];refine cl h84 ?_;push_cast;push_cast [hll,hla,hlx,c3']
  repeat refine an ?_
  refine cl hdi ?_;push_cast;exact dn (by push_cast [ze,zd,CLe,zh,O4,Ad,Oj])
end
section
open CA CB
open Go.RowKit
theorem zbQ (f:FsV) (hf:FsI f) (hr:FsR f) (hs:FsS f) (hd:HC f.xs) (b:Lz) (hb:b.length<=100000) (k:Int) (o:Lz) (ops:List Lz) (hn:ops.length<=1000) (hp:∀ x∈ops,x.length<=1000):Fun Tryz.prog G0 39 [.agg (fsC f),.str b,.agg (zoK k o ops)] (.tup [.sl 1 (qj ((Yi f b k o ops).getD [])),.sc (.bool (Yi f b k o ops).isSome)]) 0:=by
 have hll:(qj ops).length=ops.length:=We ..;have hin:=zjd f hf hr hs hd b hb k o ops hn hp;by_cases c1:ops.length=1
 ·have c1':=eq_true (show (ops.length:Int)=1 by omega);obtain ⟨p,rfl⟩:=List.length_eq_one_iff.1 c1;have e:Yi f b k o [p]=some [Vk p]:=rfl;have hba:=zan p (by have:=hp p Wj;omega);rw[e];refine fon Tryz.func39 ?_;dsimp only[Tryz.f39];push_cast [qj,WC,Oo,Wr,OF]
  repeat refine an ?_
  refine cl hba ?_;push_cast;exact dn (by push_cast [ze,zd,CLe,zh,W9,AT,qj,WC,Oo])
 have c1':=WG (show ¬(ops.length:Int)=1 by omega);cases c2:zdu f b k o ops with
 | true =>
  rw[c2]at hin;have e:Yi f b k o ops=some (ops.dropLast.map fun p=>Yx (ops.getLastD []) (Vk p)):=by unfold Yi;rw[if_neg c1,if_pos c2]
  have hn2:¬ops.length<2:=fun q=>by
   unfold zdu at c2;rw[Wl q]at c2;cases c2
  have hlg:=Ne (ops:=ops) (by omega);have hla:(qj ops)[ops.length-1]?=some [.str (ops.getLastD [])]:=by rw[Wy,hlg];rfl
  have hlx:((ops.length:Int)-1).toNat=ops.length-1:=by omega
  have hl2:(ops.getLastD []).length<=1000:=hp _ (Wf hlg);have hdl:ops.take (ops.length-1)=ops.dropLast:=List.dropLast_eq_take.symm;have hpd:∀ x∈ops.dropLast,x.length<=1000:=fun x hx=>hp x (List.dropLast_subset _ hx);have hdn:ops.dropLast.length=ops.length-1:=List.length_dropLast;clear hlg hp;rw[e];generalize ops.getLastD []=z at *;generalize ops.dropLast=dl at *;have hdll:(qj dl).length=dl.length:=We ..;have hdc:((ops.length:Int)-1)=(dl.length:Int):=by omega
  refine fof (fun i=>if i=9 then [false,false,false,false,false,false,false,false,false,false,false,true] else []) Tryz.func39 ?_;dsimp only[Tryz.f39];push_cast [hll,c1'];refine cl hin ?_;push_cast;push_cast [hll,hlx,hdl,hdll]
  repeat refine an ?_
  push_cast [hll,hlx,hdl,hdll];refine loop (fun i:Nat=>⟨[(5,.ptr 1 0),(8,.sc (.int .i64 (ops.length:Nat))),(9,.own 0 9 1 (qj ((dl.take i).map fun p=>Yx z (Vk p)))),(33,.sl 1 (qj dl)),(34,.sc (.int .i64 (dl.length:Nat))),(35,.sc (.int .i64 i))],[[.any,.any,.any,.any],zoK k o ops],1,0⟩) (fun i=>i<=dl.length) (fun i=>dl.length-i) 0 (Wd _) ?_ ?_
  ·exact wks [.inr (9,1)] (h4:=by push_cast [ze,zd,CLe,zh,Ow,Oo,qj,hdl])
  intro i hi;by_cases hlt:i<dl.length
  ·have hlt':=eq_true (show (i:Int)<dl.length by omega);have hgi:(qj dl)[i]?=some [.str dl[i]]:=by simp[qj,hlt]
   have hx:=hpd _ (Wz hlt);have ht:qj ((dl.take (i+1)).map fun p=>Yx z (Vk p))=qj ((dl.take i).map fun p=>Yx z (Vk p))++[[.str (Yx z (Vk dl[i]))]]:=by
    rw[Aw hlt,W5];exact W5
   generalize dl[i]=p at *;have hba:=zan p (by omega);have hbl:=zn0 p;have hj:=ZH z (Vk p) (by omega) (by omega);have htl:(qj ((dl.take i).map fun p=>Yx z (Vk p))).length=i:=by simp[qj];omega
   push_cast [hlt',hgi,hll,hla,hlx,At]
   repeat refine an ?_
   refine cl hba ?_;push_cast [hll,hla,hlx]
   repeat refine an ?_
   refine cl hj ?_;push_cast [htl]
   repeat refine an ?_
   exact ⟨i+1,by omega,by omega,wks [.inl 0] (h4:=by push_cast [ze,zd,CLe,zh,ht])⟩
  ·have hlt':=WG (show ¬(i:Int)<dl.length by omega);have hil:i=dl.length:=by omega
   rw[hil]at hlt' ⊢;rw[Oi];push_cast [hlt'];exact dn (by push_cast [ze,zd,CLe,zh,W9,AT])
 | false =>
  rw[c2]at hin;by_cases c3:ops.length=2
  ·have c3':=eq_true (show (ops.length:Int)=2 by omega);have e:Yi f b k o ops=some [ops.getLastD []]:=by unfold Yi;rw[if_neg c1,if_neg (by rw[c2];decide),if_pos c3]
   have hlg:=Ne (ops:=ops) (by omega);have hla:(qj ops)[1]?=some [.str (ops.getLastD [])]:=by rw[Wy,show (1:Nat)=ops.length-1 by omega,hlg];rfl
   rw[e];refine fon Tryz.func39 ?_;dsimp only[Tryz.f39];push_cast [hll,c1'];refine cl hin ?_;push_cast [hll,c3',hla]
   repeat refine an ?_
   exact dn (by push_cast [ze,zd,CLe,zh,W9,AT,qj,WC,Oo])
  ·have c3':=WG (show ¬(ops.length:Int)=2 by omega);have e:Yi f b k o ops=none:=by unfold Yi;rw[if_neg c1,if_neg (by rw[c2];decide),if_neg c3]
   rw[e];refine fon Tryz.func39 ?_;dsimp only[Tryz.f39];push_cast [hll,c1'];refine cl hin ?_;push_cast [hll,c3'];exact dn (by push_cast [ze,zd,CLe,zh,Am,BN,qj,Oo])
end
section
open CA CB
open Go.RowKit
theorem Gy (f:FsV) (hf:FsI f) (hs:FsS f) (d o:Int):Fun Tryz.prog G0 123 [.agg (fsC f),.sc (.int .i64 d),.sc (.int .i64 o)] (.sc (.bool (vB f.xs f.xs.length d o))) 0:=by
 have hll:(zt f.xs).length=f.xs.length:=We ..;have hlen:=hs.len;refine fon Tryz.func123 ?_;dsimp only[Tryz.f123];push_cast;refine loop (fun p:Nat×Int=>⟨[(1,.sc (.int .i64 p.2)),(2,.sc (.int .i64 o)),(3,.ptr 0 0),(7,.sc (.bool false)),(12,.sc (.int .i64 (f.xs.length:Nat))),(13,.sc (.int .i64 p.1))],[fsC f],0,0⟩) (fun p=>p.1<=f.xs.length/\vB f.xs f.xs.length d o=vB f.xs (f.xs.length-p.1) p.2 o) (fun p=>f.xs.length-p.1) (0,d) ⟨Wd _,rfl⟩ ?_ ?_
 ·exact wk (h4:=by push_cast [ze,zd,CLe,zh,hll])
 rintro ⟨i,c⟩ ⟨h1,h2⟩;dsimp only at h1 h2;by_cases hi:i<f.xs.length
 ·have hi':=eq_true (show (i:Int)<f.xs.length by omega);have hg:=qr (G:=G0) f c (by omega) hf.rises;have e:vB f.xs (f.xs.length-i) c o=if c=o then true else if c=1 then false else vB f.xs (f.xs.length-(i+1)) (zf c f.xs).parent o:=by
   rw[show f.xs.length-i=(f.xs.length-(i+1))+1 by omega];rfl
  rw[e]at h2;by_cases c1:c=o
  ·have c1':=eq_true c1;rw[if_pos c1]at h2;rw[h2];push_cast [hi'];refine cl hg ?_;push_cast [c1'];exact dn
  ·have c1':=WG c1;rw[if_neg c1]at h2;by_cases c2:c=1
   ·have c2':=eq_true c2;rw[if_pos c2]at h2;rw[h2];push_cast [hi'];refine cl hg ?_;push_cast [c1',c2'];exact dn
   ·have c2':=WG c2;rw[if_neg c2]at h2;push_cast [hi'];refine cl hg ?_;push_cast [c1',c2']
    repeat refine an ?_
    exact ⟨(i+1,(zf c f.xs).parent),⟨by dsimp only;omega,h2⟩,by dsimp only;omega,wk⟩
 ·have hi':=WG (show ¬(i:Int)<f.xs.length by omega);have e:vB f.xs (f.xs.length-i) c o=false:=by rw[show f.xs.length-i=0 by omega];rfl
  rw[h2,e];push_cast [hi'];exact dn
end
section
def zr2 (p:Lz):OpV:=⟨1,0,p,[],[]⟩
theorem zjJ {p:Lz} (h:zT p=true):UL (zr2 p)=true:=by
 unfold UL zr2;have e1:Zh 1=false:=rfl;have e2:zoJ 1=false:=rfl;simp only[h,e1,e2]
 rfl
structure MkG (w0:qH) (N K:Nat) (d:zF):Prop where
 wi:Q9 d.w
 wr:yt d.w
 wb:MN (40+N) d.w
 next:d.w.fs.next<=549755813888+N
 dat:HC d.w.fs.xs
 ops:d.ops.length<=N
 all:∀ o∈d.ops,∃ a,o=zr2 a/\zT a=true/\a.length<=990000
 diags:d.diags.length<=K
 slot:0<=d.slot/\d.slot<=1073741824
 kept:d.w.kept=w0.kept
 stat:(d.status=1)↔0<d.diags.length
end
section
open CA CB
open Go.RowKit
end
section
open CA CB
open Go.RowKit
abbrev Y2 (d:zF) (k:Int) (o:Lz) (ops:List Lz) (b:Lz):List C:=zrH d++(zoK k o ops++[.str b])
abbrev ldL (u pl v:Lz) (x:zl) (t:List C):List C:=[.str u,.str pl,.str v]++(Yw x++t)
abbrev ldZ:List C:=[.sc (.int .i64 0),.sc (.int .i64 0),.sc (.int .i64 0),.str [],.sc (.int .i64 0),.sc (.slice none 0 0),.sc (.int .i64 0),.str [],.sc (.int .i64 0),.sc (.bool false)]
abbrev ldT (y:zl) (s:zK) (th:Bool):List C:=[.sc (.int .i64 y.ino),.sc (.int .i64 y.kind),.sc (.int .i64 y.links),.str y.data,.sc (.int .i64 y.parent),.sl 2 (zO y.es),.sc (.int .i64 s.dir),.str s.name,.sc (.int .i64 s.ino),.sc (.bool th)]
section
variable (d:zF) (k:Int) (o:Lz) (ops:List Lz) (b u pl v:Lz) (x:zl)
theorem zc6 (hd:d.diags.length<=80000) (hu:u.length<=3000) (hv:v.length<=3000) (w e:Int) :
  Zb Tryz.prog GD 101 [.ptr 0 0,.agg (ldL u pl v x ldZ),.sc (.int .i64 w),.sc (.int .i64 e)] [Y2 d k o ops b] 0 (.tup []) [Y2 (JL d (JU 5 w u v e)) k o ops b] 0:=by
 have ht:=zgo d hd 5 w u v e hu hv;refine foB (fun i=>if i=1 then [false,false,false,false,false,false,false,false,false,false,false,false,false,false,true] else []) Tryz.func101 ?_;dsimp only[Tryz.f101];push_cast;refine cl ht ?_;push_cast;exact ⟨[],rfl,rfl,by push_cast [ze,zd,CLe,zh],by push_cast [ze,zd,CLe,zh,JL]⟩
theorem zcV (y:zl) (s:zK) (th:Bool) (hd:d.diags.length<=80000) (hu:u.length<=3000) (hv:v.length<=3000) (w e:Int) :
  Zb Tryz.prog GD 101 [.ptr 0 0,.agg (ldL u pl v x (ldT y s th)),.sc (.int .i64 w),.sc (.int .i64 e)] [Y2 d k o ops b] 0 (.tup []) [Y2 (JL d (JU 5 w u v e)) k o ops b] 0:=by
 have ht:=zgo d hd 5 w u v e hu hv;refine foB (fun i=>if i=1 then [false,false,false,false,false,false,false,false,false,false,false,false,false,false,true] else []) Tryz.func101 ?_;dsimp only[Tryz.f101];push_cast;refine cl ht ?_;push_cast;exact ⟨[],rfl,rfl,by push_cast [ze,zd,CLe,zh],by push_cast [ze,zd,CLe,zh,JL]⟩
theorem UN (y:zl) (s:zK) (th:Bool) (w:Int) (op:OpV) (hd:zaH d) (ho:Vs op) (hl:op.d.length<=10000) (h0:(jP d op).2=0) :
  Zb Tryz.prog GD 185 [.ptr 0 0,.agg (ldL u pl v x (ldT y s th)),.sc (.int .i64 w),.agg (opL op)] [Y2 d k o ops b] 0 (.sc (.bool true)) [Y2 (jP d op).1 k o ops b] 0:=by
 have ha:Fun Tryz.prog GD 75 [HE d,.agg (opL op)] (.tup [HE (jP d op).1,.sc (.int .i64 0)]) 0:=(zku d hd op ho hl h0).weak (by push_cast [ze,zd,CLe,zh]);obtain ⟨ok,os,oa,ob,od⟩:=op;generalize (jP d ⟨ok,os,oa,ob,od⟩).1=d' at *;unfold opL at ha ⊢;refine foB (fun i=>if i=1 then JJ 9 10 else []) Tryz.func185 ?_;dsimp only[Tryz.f185];push_cast;refine cl ha ?_;push_cast;exact ⟨[],rfl,rfl,by push_cast [ze,zd,CLe,zh],by push_cast [ze,zd,CLe,zh]⟩
theorem zda (y:zl) (s:zK) (th:Bool) (h:okM d.w.fs) (hh:zk s.dir d.w.fs.xs=true) (hk:(zf s.dir d.w.fs.xs).kind=2) (hm:may s.name=true) :
  Fun Tryz.prog GD 186 [.row (Y2 d k o ops b),.agg (ldL u pl v x (ldT y s th))] (.str (qu d.w.fs s)) 0:=by
 have ha:=(ZV d.w.fs h s hh hk hm).g0 (G':=GD);refine fon Tryz.func186 ?_;dsimp only[Tryz.f186];push_cast;refine cl ha ?_;push_cast;exact dn
theorem u0 (y:zl) (s:zK) (th:Bool) (h:okM d.w.fs) (hh:zk s.dir d.w.fs.xs=true) (hk:(zf s.dir d.w.fs.xs).kind=2) (hm:may s.name=true) :
  Zb Tryz.prog GD 186 [.ptr 0 0,.agg (ldL u pl v x (ldT y s th))] [Y2 d k o ops b] 0 (.str (qu d.w.fs s)) [Y2 d k o ops b] 0:=by
 have ha:=(ZV d.w.fs h s hh hk hm).g0 (G':=GD);refine foB (fun _=>[]) Tryz.func186 ?_;dsimp only[Tryz.f186];push_cast;refine cl ha ?_;push_cast;exact ⟨[],rfl,rfl,by push_cast [ze,zd,CLe,zh],by push_cast [ze,zd,CLe,zh]⟩
theorem V9 (y:zl) (s:zK) (th:Bool) (hm:may s.name=true) (hs:jJ v=false) (hv:v.length<=6000) (w e:Int) :
  Fun Tryz.prog GD 184 [.row (Y2 d k o ops b),.agg (ldL u pl v x (ldT y s th)),.sc (.int .i64 w),.sc (.int .i64 e)] (.sc (.bool true)) 0:=by
 have hre:Fun Tryz.prog GD 125 [.str v] (.agg [jb (yz v),.own 0 9 1 (qj (zn v)),jb (jJ v)]) 1:=(UR v (by omega)).g0;have hma:=(uD s.name (by have:=ky hm;omega)).g0 (G':=GD);rw[hs]at hre;rw[hm]at hma;by_cases he:e=0
 ·have he':=eq_true he;refine fon Tryz.func184 ?_;dsimp only[Tryz.f184];push_cast [he'];refine cl hma ?_;push_cast;exact dn
 ·have he':=WG he;refine fon Tryz.func184 ?_;dsimp only[Tryz.f184];push_cast [he'];refine cl hre ?_;push_cast;refine cl hma ?_;push_cast;exact dn
end
end
section
open CA CB
open Go.RowKit
theorem V1 {bx:List (List C)} {c:C} (h:c.stayB=true):YR bx c c:=by
 cases c<;>simp[C.stayB]at h<;>(unfold YR;simp[C.frz])
theorem Hg {bx:List (List C)}:∀ {cs:List C},(cs.all C.stayB)=true->jH bx cs cs
 | [],_=>by unfold jH;rfl
 | c :: r,h=>by
  rw[AO,Wo]at h;unfold jH;exact ⟨_,_,rfl,V1 h.1,Hg h.2⟩
theorem Gq {bx:List (List C)} {cs:List C} (h:(cs.all C.stayB)=true):YR bx (.agg cs) (.agg cs):=by unfold YR;exact ⟨_,rfl,Hg h⟩
end
section
open CA CB
open Go.RowKit
section
variable (d:zF) (k:Int) (o:Lz) (ops:List Lz) (b u pl v:Lz) (x:zl)
theorem zbI (y:zl) (s:zK) (th:Bool) {bx:List (List C)} (h0:bx[0]?=some (Y2 d k o ops b)):jH bx [.ptr 0 0,.agg (ldL u pl v x (ldT y s th))] [.row (Y2 d k o ops b),.agg (ldL u pl v x (ldT y s th))]:=by
 unfold jH;refine ⟨_,_,rfl,by unfold YR;exact ⟨_,h0,by simp[C.frzL,C.frz]⟩,?_⟩;unfold jH;exact ⟨_,_,rfl,Gq rfl,by unfold jH;rfl⟩
theorem VP (y:zl) (s:zK) (th:Bool) (w e:Int) {bx:List (List C)} (h0:bx[0]?=some (Y2 d k o ops b)):jH bx [.ptr 0 0,.agg (ldL u pl v x (ldT y s th)),.sc (.int .i64 w),.sc (.int .i64 e)] [.row (Y2 d k o ops b),.agg (ldL u pl v x (ldT y s th)),.sc (.int .i64 w),.sc (.int .i64 e)]:=by
 unfold jH;refine ⟨_,_,rfl,by unfold YR;exact ⟨_,h0,by simp[C.frzL,C.frz]⟩,?_⟩;unfold jH;refine ⟨_,_,rfl,Gq rfl,?_⟩;unfold jH;refine ⟨_,_,rfl,V1 rfl,?_⟩;unfold jH;exact ⟨_,_,rfl,V1 rfl,by unfold jH;rfl⟩
theorem zhx (hG:GrD N d) (hN:N<=3000) (y:zl) (hlp:pl.length<=20000) (hlv:v.length<=6000) (s:zK) (hh:zk s.dir d.w.fs.xs=true) (hk:(zf s.dir d.w.fs.xs).kind=2) (hm:may s.name=true) (hs:jJ v=false)
  (h0:(jP d ⟨2,0,pl,qu d.w.fs s,[]⟩).2=0) :
  Zb Tryz.prog GD 151 [.ptr 0 0,.agg (ldL u pl v x (ldT y s false))] [Y2 d k o ops b] 0 (.tup []) [Y2 (jP d ⟨2,0,pl,qu d.w.fs s,[]⟩).1 k o ops b] 0:=by
 have h1:=V9 d k o ops b u pl v x y s false hm hs hlv 17 3;have h2:=u0 d k o ops b u pl v x y s false (hG.ok (by omega)) hh hk hm;have hpl:=UV (hG.ok (by omega)) hh hk hm;have h3:=UN d k o ops b u pl v x y s false 17 ⟨2,0,pl,qu d.w.fs s,[]⟩ (hG.b.s (by omega)) ⟨by show pl.length<=_;omega,by show (qu d.w.fs s).length<=_;omega,Wd _⟩ (Wd _) h0;generalize (jP d ⟨2,0,pl,qu d.w.fs s,[]⟩).1=d' at *;generalize qu d.w.fs s=q at *;unfold opL at h3;refine foB (fun i=>if i=4 then Hq [(0,.pure),(1,.pure),(2,.pure),(3,.pure),(4,.pure),(5,.pure),(6,.flt [0,1,2,3]),(7,.pure),(8,.bar)] else []) Tryz.func151 ?_;dsimp only[Tryz.f151];push_cast;refine zcL [.row (Y2 d k o ops b),.agg (ldL u pl v x (ldT y s false)),.sc (.int .i64 17),.sc (.int .i64 3)] h1 rfl (VP d k o ops b u pl v x y s false 17 3 rfl) ?_;push_cast;refine zgi [0] h2 (by decide) (by simp) (by push_cast) (by push_cast) (fun r bx' m hp=>?_);obtain ⟨rfl,rfl,rfl⟩:=hp;push_cast;refine Yz [0] [] h3 rfl (by decide) (by decide) (by simp) (by push_cast) (by push_cast) ?_;push_cast;exact ⟨[],rfl,rfl,by push_cast [ze,zd,CLe,zh],by push_cast [ze,zd,CLe,zh]⟩
theorem zhg (hG:GrD N d) (hN:N<=3000) (y:zl) (hlx:x.data.length<=5000) (hlv:v.length<=6000) (s:zK) (hh:zk s.dir d.w.fs.xs=true) (hk:(zf s.dir d.w.fs.xs).kind=2) (hm:may s.name=true) (hs:jJ v=false)
  (h0:(jP d ⟨4,0,qu d.w.fs s,[],x.data⟩).2=0) :
  Zb Tryz.prog GD 152 [.ptr 0 0,.agg (ldL u pl v x (ldT y s false))] [Y2 d k o ops b] 0 (.tup []) [Y2 (jP d ⟨4,0,qu d.w.fs s,[],x.data⟩).1 k o ops b] 0:=by
 have h1:=V9 d k o ops b u pl v x y s false hm hs hlv 18 1;have h2:=zda d k o ops b u pl v x y s false (hG.ok (by omega)) hh hk hm;have hpl:=UV (hG.ok (by omega)) hh hk hm;have h3:=UN d k o ops b u pl v x y s false 18 ⟨4,0,qu d.w.fs s,[],x.data⟩ (hG.b.s (by omega)) ⟨by show (qu d.w.fs s).length<=_;omega,Wd _,by show x.data.length<=_;omega⟩ (by show x.data.length<=_;omega) h0;generalize (jP d ⟨4,0,qu d.w.fs s,[],x.data⟩).1=d' at *;generalize qu d.w.fs s=q at *;unfold opL at h3;refine foB (fun _=>[]) Tryz.func152 ?_;dsimp only[Tryz.f152];push_cast;refine zcL [.row (Y2 d k o ops b),.agg (ldL u pl v x (ldT y s false)),.sc (.int .i64 18),.sc (.int .i64 1)] h1 rfl (VP d k o ops b u pl v x y s false 18 1 rfl) ?_;push_cast;refine zcL [.row (Y2 d k o ops b),.agg (ldL u pl v x (ldT y s false))] h2 rfl (zbI d k o ops b u pl v x y s false rfl) ?_;push_cast;refine Yz [0] [] h3 rfl (by decide) (by decide) (by simp) (by push_cast) (by push_cast) ?_;push_cast;exact ⟨[],rfl,rfl,by push_cast [ze,zd,CLe,zh],by push_cast [ze,zd,CLe,zh]⟩
theorem ze3 (hd:∃ N,GrD N d/\N<=3000) (hb:b.length<=100000) (y:zl) (s:zK) (hlp:pl.length<=20000) (hlv:v.length<=6000) (h1:(110:UInt8)∉o) (h2:(zr d.w.fs b v true).2=0) (h3:zk (zr d.w.fs b v true).1.ino d.w.fs.xs=true)
  (h4:(zf (zr d.w.fs b v true).1.ino d.w.fs.xs).kind≠2) (h5:(zr d.w.fs b v true).1.ino≠x.ino) (hh:zk (zr d.w.fs b v true).1.dir d.w.fs.xs=true) (hk:(zf (zr d.w.fs b v true).1.dir d.w.fs.xs).kind=2) (hm:may (zr d.w.fs b v true).1.name=true)
  (h0:(jP d ⟨3,0,pl,qu d.w.fs (zr d.w.fs b v true).1,[]⟩).2=0) :
  Zb Tryz.prog GD 187 [.ptr 0 0,.agg (ldL u pl v x (ldT y s true))] [Y2 d k o ops b] 0 (.tup []) [Y2 (jP d ⟨3,0,pl,qu d.w.fs (zr d.w.fs b v true).1,[]⟩).1 k o ops b] 0:=by
 obtain ⟨N,hG,hN⟩:=hd;have hs:=(hG.b.s (by omega)).ws.fs;have c1:=(Jv d.w.fs hG.b.wi.fs hG.r.fs hs hG.dat b v true hb hlv).g0 (G':=GD);have c2:=qr (G:=GD) d.w.fs (zr d.w.fs b v true).1.ino (by have:=hs.len;omega) hG.b.wi.fs.rises;have c3:=(kE k o (.sl 1 (qj ops)) 110 rfl).g0 (G':=GD);have c4:=(ZV d.w.fs (hG.ok (by omega)) (zr d.w.fs b v true).1 hh hk hm).g0 (G':=GD);have hpl:=UV (hG.ok (by omega)) hh hk hm;have c5:=UN d k o ops b u pl v x y s true 21 ⟨3,0,pl,qu d.w.fs (zr d.w.fs b v true).1,[]⟩ (hG.b.s (by omega)) ⟨by show pl.length<=_;omega,by show (qu d.w.fs (zr d.w.fs b v true).1).length<=_;omega,Wd _⟩ (Wd _) h0;have e5:=(zi h3).2.2;rw[h2]at c1;rw[h3]at c2;rw[Wi h1]at c3;generalize (jP d ⟨3,0,pl,qu d.w.fs (zr d.w.fs b v true).1,[]⟩).1=d' at *;generalize qu d.w.fs (zr d.w.fs b v true).1=q at *;generalize (zr d.w.fs b v true).1=T at *;generalize zf T.ino d.w.fs.xs=Y at *;have k1:=WG h4;have k2:=WG (show ¬Y.ino=x.ino by rw[e5];exact h5);unfold opL at c5;refine foB (fun i=>if i=2 then JJ 11 12 else if i=4 then [false,false,false,false,false,false,false,false,true] else []) Tryz.func187 ?_;dsimp only[Tryz.f187];push_cast;refine cl c1 ?_;push_cast;refine cl c2 ?_;push_cast;refine cl c3 ?_;push_cast [k1,k2];refine cl c4 ?_;push_cast [k1,k2];refine Yz [0] [] c5 rfl (by decide) (by decide) (by simp) (by push_cast) (by push_cast) ?_;push_cast;exact ⟨[],rfl,rfl,by push_cast [ze,zd,CLe,zh],by push_cast [ze,zd,CLe,zh]⟩
theorem zc0 (y:zl) (s:zK) (d':zF) (h:Zb Tryz.prog GD 187 [.ptr 0 0,.agg (ldL u pl v x (ldT y s true))] [Y2 d k o ops b] 0 (.tup []) [Y2 d' k o ops b] 0) :
  Zb Tryz.prog GD 151 [.ptr 0 0,.agg (ldL u pl v x (ldT y s true))] [Y2 d k o ops b] 0 (.tup []) [Y2 d' k o ops b] 0:=by
 refine foB (fun i=>if i=4 then Hq [(0,.pure),(1,.pure),(2,.pure),(3,.pure),(4,.pure),(5,.pure),(6,.flt [0,1,2,3]),(7,.pure),(8,.bar)] else []) Tryz.func151 ?_;dsimp only[Tryz.f151];push_cast;refine Yz [0] [] h rfl (by decide) (by decide) (by simp) (by push_cast) (by push_cast) ?_;push_cast;exact ⟨[],rfl,rfl,by push_cast [ze,zd,CLe,zh],by push_cast [ze,zd,CLe,zh]⟩
end
end
end Go.Proofs.YtnpdbhbmakdklaaGreatDoor.Vcg
