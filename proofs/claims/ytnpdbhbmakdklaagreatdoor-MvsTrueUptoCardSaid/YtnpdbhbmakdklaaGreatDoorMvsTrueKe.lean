/- What the proof of MvsTrue leans on, part 5: Rf10 Grw Con Kit KitBytes QuoteWalk1 Builder QuoteWalk2 Diag1 Spl Diag2 Diag3 Diag4 Dra3 Ref19b Ref19c Rf11 Ref8 Wlk1 Wlk2 Tree1 Mak0 Tree2 Tree3 Tree4 Tree5 Tree6 Tree7 Dra4 Mak1 Mak2 Mak3 OpenD Rgt0 Rgt1 Rgt2 Rgt3 Rgt4 Rgt5 Rgt6 PthL Sk0 Slc2 Sk2 SekP SekL Dat Gro Pla Rms0 Mvp Mvl Mvm Mvi Sek1 Sek2. No condition beyond what each theorem states. -/
import Derived.Test.YtnpdbhbmakdklaaGreatDoorMvsTrueKd
import Derived.WalkKit
import Derived.Lib.Hide
import Derived.Lib.Join
import Derived.Deep.Draws
import Derived.Lib.SlBytesRow
import Derived.StillTailTactics
import Derived.Test.YtnpdbhbmakdklaaGreatDoorProg
import Derived.WalkLawsBesides
import Derived.WalkSpells
import Derived.Shelf.Strings.Builder1
import Derived.Shelf.Strings.BuilderF
import Derived.Shelf.Strings.SlTrimAscii
import Derived.Sort.Walk0
set_option linter.unusedVariables false
set_option linter.unusedSimpArgs false
set_option linter.unusedSectionVars false
set_option maxRecDepth 100000
set_option maxHeartbeats 4000000
namespace Go.Proofs.YtnpdbhbmakdklaaGreatDoor.Vcg
variable {k N:Nat} {w:qV} {f:FsV} {args:List C} {n p:Int} {ns:List Lz} {l:List (Int×Int)} {xs:List zo} {d:zW} {b v:Lz}
section
open CA CB
open Go.RowKit
def zic (w:qV):Prop:=(∀ k∈w.kept,k.data.length<=5000)/\H4 w.fs.xs/\H4 w.pool/\w.kept.length<=40
instance (w:qV):Decidable (zic w):=by unfold zic;infer_instance
def XX (w:qV) (k:zY):Prop:=k.slot<=1073741824/\(zk k.ino w.fs.xs=true∨zk k.ino w.pool=true)/\(k.content=true->(if zk k.ino w.pool=true then zf k.ino w.pool else zf k.ino w.fs.xs).kind=1)/\(k.content=false->k.data = [])
instance (w:qV) (k:zY):Decidable (XX w k):=by unfold XX;infer_instance
def Qp (ks:List zY):Prop:=qT Jk zY.slot ks/\∀ k∈ks,1<=k.slot
instance (ks:List zY):Decidable (Qp ks):=by unfold Qp qT;infer_instance
def X5 (w:qV):Prop:=JD w.fs=0/\qc w.pool/\(∀ x∈w.pool,qJ w x)/\Qp w.kept/\∀ k∈w.kept,XX w k
instance (w:qV):Decidable (X5 w):=by unfold X5;infer_instance
def okW (w:qV):Prop:=zic w/\X5 w
instance (w:qV):Decidable (okW w):=by unfold okW;infer_instance
theorem Zy {ks:List zY} (h:Qp ks):0<=Jd ks/\∀ k∈ks,k.slot<=Jd ks:=by
 rcases Ah ks with rfl | ⟨l,b,rfl⟩
 ·exact ⟨Af 0,fun k hk=>by cases hk⟩
 ·rw[O0]at h ⊢;have hl:Jd (l++[b])=b.slot:=by unfold Jd;rw[BN];rfl
  rw[hl];have hb:=h.2 b (by simp);refine ⟨by omega,fun k hk=>?_⟩;rcases WF.1 hk with hk | hk
  ·have:=(A6.1 h.1).2.2 k hk b (by simp);have:k.slot<b.slot:=WR this;omega
  ·rw[W3.1 hk];exact Af _
theorem kU {ks:List zY} {k:zY}:Qp (ks++[k])↔Qp ks/\Jd ks<k.slot:=by
 constructor
 ·rintro ⟨h1,h2⟩;have h0:Qp ks:=⟨(A6.1 h1).1,fun x hx=>h2 x (OO _ hx)⟩;refine ⟨h0,?_⟩;rcases Ah ks with rfl | ⟨l,b,rfl⟩
  ·have:=h2 k (by simp);show (0:Int)<k.slot;omega
  ·rw[O0]at h1 ⊢;have hl:Jd (l++[b])=b.slot:=by unfold Jd;rw[BN];rfl
   rw[hl];exact WR ((A6.1 h1).2.2 b (by simp) k (by simp))
 ·rintro ⟨h,hk⟩;obtain ⟨q1,q2⟩:=Zy h;refine ⟨A6.2 ⟨h.1,Bx _ _,fun a ha b hb=>?_⟩,fun x hx=>?_⟩
  ·rw[W3.1 hb];have:=q2 a ha;exact Wm (show a.slot<k.slot by omega)
  ·rcases WF.1 hx with hx | hx
   ·exact h.2 x hx
   ·rw[W3.1 hx];omega
theorem Gj (w:qV):Fun Tryz.prog G0 61 [ZB w] (qQ (decide (zic w))) 0:=by
 have hkl:(zO w.kept).length=w.kept.length:=We ..;have hf:=zam (G:=G0) w.fs;have hq:=kT (G:=G0) w;have hp:=zam (G:=G0) ⟨0,0,0,w.pool⟩;simp only at hp;have fin:(∀ k∈w.kept.take 100,k.data.length<=5000)->(zic w↔H4 w.fs.xs/\H4 w.pool/\w.kept.length<=40):=fun h=>by
  refine ⟨fun q=>q.2,fun q=>⟨?_,q⟩⟩;rw[Wf (by have:=q.2.2;omega)]at h;exact h
 refine fon Tryz.func61 ?_;dsimp only[Tryz.f61];push_cast;refine loop (fun i:Nat=>⟨[(1,.ptr 0 0),(3,.sc (.int .i64 i))],[Mq w],0,0⟩) (fun i=>i<=w.kept.length/\i<=100/\∀ k∈w.kept.take i,k.data.length<=5000) (fun i=>w.kept.length-i) 0 ⟨Wc _,Wc _,fun x hx=>by simp at hx⟩ ?_ ?_
 ·exact wk
 ·rintro i ⟨h1,h2,h3⟩;have last:(∀ k∈w.kept.take 100,k.data.length<=5000)->decide (zic w)=(decide (H4 w.fs.xs)&&(decide (H4 w.pool)&&decide (w.kept.length<=40))):=fun h=>by
   have:=fin h;by_cases a:H4 w.fs.xs<;>by_cases b:H4 w.pool<;>by_cases c:w.kept.length<=40<;>simp[this,a,b,c]
  by_cases h:i<w.kept.length
  ·by_cases h100:i<100
   ·have g:=JN w.kept i h;have h100':((i:Int)<100)=True:=eq_true (by omega);by_cases hd:5000<(w.kept[i].data.length:Int)
    ·have hn:¬zic w:=fun q=>by have:=q.1 _ (Wx h);omega
     push_cast [hkl,h,h100',g,hd]
     repeat refine an ?_
     exact dn (by push_cast [ze,zd,CLe,zg,hn])
    ·push_cast [hkl,h,h100',g,hd]
     repeat refine an ?_
     exact ⟨i+1,⟨h,h100,qo h h3 (by omega)⟩,by omega,wk⟩
   ·have h100':((i:Int)<100)=False:=Wu (by omega);have e:i=100:=by omega
    have hl:=last (by rw[←e];exact h3);have h40:((w.kept.length:Int)<=40)=False:=Wu (by omega);rw[Wk (show ¬w.kept.length<=40 by omega)]at hl;rw[hl];by_cases a:H4 w.fs.xs
    ·by_cases b:H4 w.pool
     ·push_cast [hkl,h,h100'];refine cl hf ?_;push_cast [Wm a];refine cl hq ?_;push_cast;refine cl hp ?_;push_cast [Wm b,hkl,h40];exact dn (by push_cast [ze,zd,CLe,zg,a,b,Od])
     ·push_cast [hkl,h,h100'];refine cl hf ?_;push_cast [Wm a];refine cl hq ?_;push_cast;refine cl hp ?_;push_cast [Wk b];exact dn (by push_cast [ze,zd,CLe,zg,a,b,Od])
    ·push_cast [hkl,h,h100'];refine cl hf ?_;push_cast [Wk a];exact dn (by push_cast [ze,zd,CLe,zg,a,Od])
  ·rw[Wf (by omega)]at h3;have hl:=last fun k hk=>h3 k (WC hk);rw[hl];by_cases a:H4 w.fs.xs
   ·by_cases b:H4 w.pool
    ·by_cases c:w.kept.length<=40
     ·have h40:((w.kept.length:Int)<=40)=True:=eq_true (by omega);push_cast [hkl,h];refine cl hf ?_;push_cast [Wm a];refine cl hq ?_;push_cast;refine cl hp ?_;push_cast [Wm b,hkl,h40];exact dn (by push_cast [ze,zd,CLe,zg,a,b,c,Od])
     ·have h40:((w.kept.length:Int)<=40)=False:=Wu (by omega);push_cast [hkl,h];refine cl hf ?_;push_cast [Wm a];refine cl hq ?_;push_cast;refine cl hp ?_;push_cast [Wm b,hkl,h40];exact dn (by push_cast [ze,zd,CLe,zg,a,b,c,Od])
    ·push_cast [hkl,h];refine cl hf ?_;push_cast [Wm a];refine cl hq ?_;push_cast;refine cl hp ?_;push_cast [Wk b];exact dn (by push_cast [ze,zd,CLe,zg,a,b,Od])
   ·push_cast [hkl,h];refine cl hf ?_;push_cast [Wk a];exact dn (by push_cast [ze,zd,CLe,zg,a,Od])
structure ztE (w:qV):Prop where
 fs:FsS w.fs
 kept:w.kept.length<=10000
 pool:FsS ⟨0,0,0,w.pool⟩
theorem yT (w:qV) (hw:ztE w):Fun Tryz.prog G0 62 [ZB w] (qQ (decide (X5 w))) 0:=by
 have hfl:=hw.fs.len;have hkk:=hw.kept;have hpp:w.pool.length<=10000:=hw.pool.len;have hkl:(zO w.kept).length=w.kept.length:=We ..;have hpl:(zu w.pool).length=w.pool.length:=We ..;have hch:=zhI w.fs hw.fs;have hq:=kT (G:=G0) w;have hri:=UY (G:=G0) ⟨0,0,0,w.pool⟩ (by simp only;omega);by_cases c1:JD w.fs=0
 case neg =>
  have hn:¬X5 w:=fun h=>c1 h.1;refine fof (fun i=>if i=14 then qS 8 9 else []) Tryz.func62 ?_;dsimp only[Tryz.f62];push_cast;refine cl hch ?_;push_cast [c1];exact dn (by push_cast [ze,zd,CLe,zg,hn])
 by_cases c2:qc w.pool
 case neg =>
  have hn:¬X5 w:=fun h=>c2 h.2.1;rw[Wk c2]at hri;refine fof (fun i=>if i=14 then qS 8 9 else []) Tryz.func62 ?_;dsimp only[Tryz.f62];push_cast;refine cl hch ?_;push_cast [c1];refine cl hq ?_;push_cast;refine cl hri ?_;push_cast;exact dn (by push_cast [ze,zd,CLe,zg,hn])
 rw[Wm c2]at hri;refine fof (fun i=>if i=14 then qS 8 9 else []) Tryz.func62 ?_;dsimp only[Tryz.f62];push_cast;refine cl hch ?_;push_cast [c1];refine cl hq ?_;push_cast;refine cl hri ?_;push_cast;refine loop (fun i:Nat=>⟨[(1,.ptr 0 0),(3,.sc (.int .i64 i))],[Mq w],0,0⟩) (fun i=>i<=w.pool.length/\∀ x∈w.pool.take i,qJ w x) (fun i=>w.pool.length-i) 0 ⟨Wc _,fun x hx=>by simp at hx⟩ ?_ ?_
 ·exact wk
 rintro i ⟨h1,h2⟩;by_cases h:i<w.pool.length
 ·have g:=jg w.pool i h;have hn:=hw.pool.node _ (Wx h);have hpo:=zc8 w w.pool[i] (by omega) (by omega) (by omega) (by omega);by_cases c3:qJ w w.pool[i]
  ·rw[Wm c3]at hpo;push_cast [hpl,h,g]
   repeat refine an ?_
   refine cl hpo ?_;push_cast
   repeat refine an ?_
   exact ⟨i+1,⟨h,qo h h2 c3⟩,by omega,wk⟩
  ·rw[Wk c3]at hpo;have hn:¬X5 w:=fun q=>c3 (q.2.2.1 _ (Wx h));push_cast [hpl,h,g]
   repeat refine an ?_
   refine cl hpo ?_;push_cast;exact dn (by push_cast [ze,zd,CLe,zg,hn])
 rw[Wf (by omega)]at h2;have hs0:Qp []:=⟨List.Pairwise.nil,fun k hk=>by cases hk⟩;have hl0:Jd []=0:=rfl;push_cast [hpl,h];clear hri hq hch;refine loop (fun i:Nat=>⟨[(1,.ptr 0 0),(4,.sc (.int .i64 (Jd (w.kept.take i)))),(5,.sc (.int .i64 i))],[Mq w],0,0⟩) (fun i=>i<=w.kept.length/\Qp (w.kept.take i)/\∀ k∈w.kept.take i,XX w k) (fun i=>w.kept.length-i) 0 ⟨Wc _,by rw[OD];exact hs0,fun x hx=>by simp at hx⟩ ?_ ?_
 ·exact wk (by push_cast [ze,zd,CLe,zg,OD,hl0])
 rintro i ⟨i1,i2,i3⟩;by_cases hi:i<w.kept.length
 case neg =>
  rw[Wf (by omega)]at i2 i3;have hn:X5 w:=⟨c1,c2,h2,i2,i3⟩;push_cast [hkl,hi];exact dn (by push_cast [ze,zd,CLe,zg,hn])
 have g:=JN w.kept i hi;have hlt:=ky hi;have hst:w.kept.take (i+1)=w.kept.take i++[w.kept[i]]:=by rw[WX,Wa hi];rfl
 have hbad1:¬Jd (w.kept.take i)<w.kept[i].slot->¬X5 w:=fun hn q=>hn (kU.1 (by
  rw[←hst];exact ⟨q.2.2.2.1.1.sublist (List.take_sublist _ _),fun k hk=>q.2.2.2.1.2 k (WC hk)⟩)).2
 have hbad2:¬XX w w.kept[i]->¬X5 w:=fun hn q=>hn (q.2.2.2.2 _ (Wx hi));have hgood:Jd (w.kept.take i)<w.kept[i].slot->Qp (w.kept.take (i+1)):=fun q=>by rw[hst];exact kU.2 ⟨i2,q⟩
 have hgood2:XX w w.kept[i]->∀ k∈w.kept.take (i+1),XX w k:=fun q=>qo hi i3 q;have hg1:=qt (G:=G0) w.fs w.kept[i].ino (by omega);have hq:=kT (G:=G0) w;have hg2:=qt (G:=G0) ⟨0,0,0,w.pool⟩ w.kept[i].ino (by simp only;omega);simp only at hg2;generalize w.kept[i]=k at g hlt hbad1 hbad2 hgood hgood2 hg1 hg2;generalize Jd (w.kept.take i)=la at hbad1 hgood;clear hst i2 i3;by_cases d1:k.slot<=la
 ·have hn:=hbad1 (by omega);push_cast [hkl,hi,g]
  repeat refine an ?_
  refine cl hg1 ?_;push_cast;refine cl hq ?_;push_cast;refine cl hg2 ?_;push_cast [d1];exact dn (by push_cast [ze,zd,CLe,zg,hn])
 have hgd:=hgood (by omega);by_cases d2:1073741824<k.slot
 ·have hn:=hbad2 fun q=>by have:=q.1;omega
  push_cast [hkl,hi,g]
  repeat refine an ?_
  refine cl hg1 ?_;push_cast;refine cl hq ?_;push_cast;refine cl hg2 ?_;push_cast [d1,d2];exact dn (by push_cast [ze,zd,CLe,zg,hn])
 cases e2:zk k.ino w.pool with
 | true =>
  rw[e2]at hg2;by_cases d4:k.content=true
  ·by_cases d5:(zf k.ino w.pool).kind=1
   ·have hok:XX w k:=⟨by omega,.inr e2,fun _=>by rw[if_pos e2];exact d5,fun q=>by rw[d4]at q;cases q⟩;cases e1:zk k.ino w.fs.xs <;>
    ·rw[e1]at hg1;push_cast [hkl,hi,g]
     repeat refine an ?_
     refine cl hg1 ?_;push_cast;refine cl hq ?_;push_cast;refine cl hg2 ?_;push_cast [d1,d2,d4,d5]
     repeat refine an ?_
     exact ⟨i+1,⟨hi,hgd,hgood2 hok⟩,by omega,wk (by push_cast [ze,zd,CLe,zg,hlt])⟩
   ·have hn:=hbad2 fun q=>d5 (by have:=q.2.2.1 d4;rwa [if_pos e2]at this);cases e1:zk k.ino w.fs.xs <;>
    ·rw[e1]at hg1;push_cast [hkl,hi,g]
     repeat refine an ?_
     refine cl hg1 ?_;push_cast;refine cl hq ?_;push_cast;refine cl hg2 ?_;push_cast [d1,d2,d4,d5];exact dn (by push_cast [ze,zd,CLe,zg,hn])
  ·have d4:=Oo.2 d4;by_cases d6:k.data = []
   ·have hok:XX w k:=⟨by omega,.inr e2,fun q=>(by rw[d4]at q;cases q),fun _=>d6⟩;cases e1:zk k.ino w.fs.xs <;>
    ·rw[e1]at hg1;push_cast [hkl,hi,g]
     repeat refine an ?_
     refine cl hg1 ?_;push_cast;refine cl hq ?_;push_cast;refine cl hg2 ?_;push_cast [d1,d2,d4,d6]
     repeat refine an ?_
     exact ⟨i+1,⟨hi,hgd,hgood2 hok⟩,by omega,wk (by push_cast [ze,zd,CLe,zg,hlt])⟩
   ·have hn:=hbad2 fun q=>d6 (q.2.2.2 d4);cases e1:zk k.ino w.fs.xs <;>
    ·rw[e1]at hg1;push_cast [hkl,hi,g]
     repeat refine an ?_
     refine cl hg1 ?_;push_cast;refine cl hq ?_;push_cast;refine cl hg2 ?_;push_cast [d1,d2,d4,d6];exact dn (by push_cast [ze,zd,CLe,zg,hn])
 | false =>
  rw[e2]at hg2;cases e1:zk k.ino w.fs.xs with
  | false =>
   rw[e1]at hg1;have hn:=hbad2 fun q=>by
    rcases q.2.1 with q | q
    ·rw[e1]at q;cases q
    ·rw[e2]at q;cases q
   push_cast [hkl,hi,g]
   repeat refine an ?_
   refine cl hg1 ?_;push_cast;refine cl hq ?_;push_cast;refine cl hg2 ?_;push_cast [d1,d2];exact dn (by push_cast [ze,zd,CLe,zg,hn])
  | true =>
   rw[e1]at hg1;have e2':¬zk k.ino w.pool=true:=by rw[e2];decide
   by_cases d4:k.content=true
   ·by_cases d5:(zf k.ino w.fs.xs).kind=1
    ·have hok:XX w k:=⟨by omega,.inl e1,fun _=>by rw[if_neg e2'];exact d5,fun q=>by rw[d4]at q;cases q⟩;push_cast [hkl,hi,g]
     repeat refine an ?_
     refine cl hg1 ?_;push_cast;refine cl hq ?_;push_cast;refine cl hg2 ?_;push_cast [d1,d2,d4,d5]
     repeat refine an ?_
     exact ⟨i+1,⟨hi,hgd,hgood2 hok⟩,by omega,wk (by push_cast [ze,zd,CLe,zg,hlt])⟩
    ·have hn:=hbad2 fun q=>d5 (by have:=q.2.2.1 d4;rwa [if_neg e2']at this);push_cast [hkl,hi,g]
     repeat refine an ?_
     refine cl hg1 ?_;push_cast;refine cl hq ?_;push_cast;refine cl hg2 ?_;push_cast [d1,d2,d4,d5];exact dn (by push_cast [ze,zd,CLe,zg,hn])
   ·have d4:=Oo.2 d4;by_cases d6:k.data = []
    ·have hok:XX w k:=⟨by omega,.inl e1,fun q=>(by rw[d4]at q;cases q),fun _=>d6⟩;push_cast [hkl,hi,g]
     repeat refine an ?_
     refine cl hg1 ?_;push_cast;refine cl hq ?_;push_cast;refine cl hg2 ?_;push_cast [d1,d2,d4,d6]
     repeat refine an ?_
     exact ⟨i+1,⟨hi,hgd,hgood2 hok⟩,by omega,wk (by push_cast [ze,zd,CLe,zg,hlt])⟩
    ·have hn:=hbad2 fun q=>d6 (q.2.2.2 d4);push_cast [hkl,hi,g]
     repeat refine an ?_
     refine cl hg1 ?_;push_cast;refine cl hq ?_;push_cast;refine cl hg2 ?_;push_cast [d1,d2,d4,d6];exact dn (by push_cast [ze,zd,CLe,zg,hn])
theorem zic.m (h:zic w):ztE w:=⟨h.2.1.fs,by have:=h.2.2.2;omega,H4.fs (f:=⟨0,0,0,w.pool⟩) h.2.2.1⟩
theorem zeU (w:qV):Fun Tryz.prog G0 34 [ZB w] (qQ (decide (okW w))) 0:=by
 by_cases c:zic w
 ·have h1:=Gj w;have h2:=yT w c.m;rw[Wm c]at h1;have e:decide (okW w)=decide (X5 w):=by by_cases r:X5 w<;>simp[okW,c,r]
  refine fon Tryz.func34 ?_;dsimp only[Tryz.f34];push_cast;refine cl h1 ?_;push_cast;refine cl h2 ?_;push_cast;exact dn (by push_cast [ze,zd,CLe,zg,e])
 ·have h1:=Gj w;rw[Wk c]at h1;have e:¬okW w:=fun h=>c h.1;refine fon Tryz.func34 ?_;dsimp only[Tryz.f34];push_cast;refine cl h1 ?_;push_cast;exact dn (by push_cast [ze,zd,CLe,zg,e])
end
section
open Go.RowKit
section
variable {G:zt}
theorem zfN (n:Nat) (hn:n<=200000) (h0:0<n):YJ Tryz.prog G 172 [.sc (.slice none 0 0),.sc (.int .i64 n)] [] 0 (fun r bx' m=>m=0/\∃ (c:Nat) (B:List C),n<=c/\c<=9223372036854775807/\B.length=c*5/\(B.all C.stayB)=true/\r = .bs 0 0 5 0 c/\bx' = [B]):=by
 have hp:((n:Int)<0)=False:=Wu (by omega);have hq:((0:Int)<(n:Int))=True:=eq_true (by omega);refine foX (fun i=>if i=1000000+37 then [true,true] else []) Tryz.func172 ?_;dsimp only[Tryz.f172];push_cast [hp,hq];refine ⟨⟨by omega,by omega⟩,zgW zlr zo4 zjF rfl (by decide) rfl (by omega) (by omega) (by omega) (fun c h1 h2=>?_)⟩;push_cast;have hm:(n:Int).toNat=n:=by omega
 rw[hm]at h1;have h2:c<=9223372036854775807:=h2;refine ⟨by omega,by omega,_,[(List.replicate n [C.sc (.int .i64 0),C.sc (.int .i64 0),C.str [],C.str [],C.str []]).flatten++List.replicate ((c-n)*5) C.any],0,⟨⟨rfl,c,_,h1,h2,?_,?_,rfl,rfl⟩,Wc _⟩,[],rfl,rfl,?_,by push_cast [ze,zd,CLe,zg]⟩
 ·simp[hm];omega
 ·simp[O2,OK,C.stayB]
 ·push_cast [ze,zd,CLe,zg];exact zV (by simp[O2,OK,C.stayB])
theorem zbF:Fun Tryz.prog G 116 [.sc (.slice none 0 0),.sc (.int .i64 0)] (.sc (.slice none 0 0)) 0:=by
 refine fon Tryz.func116 ?_;dsimp only[Tryz.f116];push_cast;exact dn
theorem zhK (n:Nat) (hn:n<=200000) (h0:0<n):YJ Tryz.prog G 116 [.sc (.slice none 0 0),.sc (.int .i64 n)] [] 0 (fun r bx' m=>m=0/\∃ (c:Nat) (B:List C),n<=c/\c<=9223372036854775807/\B.length=c*1/\(B.all C.stayB)=true/\r = .bs 0 0 1 0 c/\bx' = [B]):=by
 have hp:((n:Int)<0)=False:=Wu (by omega);have hq:((0:Int)<(n:Int))=True:=eq_true (by omega);refine foX (fun i=>if i=1000000+30 then [true,true] else []) Tryz.func116 ?_;dsimp only[Tryz.f116];push_cast [hp,hq];refine ⟨⟨by omega,by omega⟩,zgW HY zo4 zh8 rfl (by decide) rfl (by omega) (by omega) (by omega) (fun c h1 h2=>?_)⟩;push_cast;have hm:(n:Int).toNat=n:=by omega
 rw[hm]at h1;have h2:c<=9223372036854775807:=h2;refine ⟨by omega,by omega,_,[(List.replicate n [C.str []]).flatten++List.replicate ((c-n)*1) C.any],0,⟨⟨rfl,c,_,h1,h2,?_,?_,rfl,rfl⟩,Wc _⟩,[],rfl,rfl,?_,by push_cast [ze,zd,CLe,zg]⟩
 ·simp[hm];omega
 ·simp[O2,OK,C.stayB]
 ·push_cast [ze,zd,CLe,zg];exact zV (by simp[O2,OK,C.stayB])
end
end
section
open CA CB
open Go.RowKit
def szN (a b:Nat):Nat->Nat
 | 0=>0
 | 1=>a
 | _=>a+b
def zrI {α:Type} (a b:List α):Nat->List α
 | 0=>[]
 | 1=>a
 | _=>a++b
structure G5 (k c:Nat) (a b:List (List C)) (j:Nat) (X:List C):Prop where
 len:X.length=c*k
 stay:(X.all C.stayB)=true
 cells:X.take (szN a.length b.length j*k)=(zrI a b j).flatten
theorem G5.step {k c:Nat} {a b r:List (List C)} {j:Nat} {X:List C} (h:G5 k c a b j X) (hr:zrI a b (j+1)=zrI a b j++r) (hn:szN a.length b.length (j+1)=szN a.length b.length j+r.length) (hk:∀ x∈r,x.length=k) (hs:ji r) (hc:szN a.length b.length (j+1)<=c) :
  G5 k c a b (j+1) (spl X (szN a.length b.length j*k) r.flatten):=by
 have hf:=zM hk;obtain ⟨h1,h2,h3⟩:=h;have hle:(szN a.length b.length j+r.length)*k<=c*k:=WT k (by omega);rw[On]at hle;refine ⟨by rw[Zm (by omega)];exact h1,?_,?_⟩
 ·unfold spl;rw[O2,O2,Wt,Wt];rw[WE]at h2;exact ⟨⟨WE.2 fun x hx=>h2 x (WC hx),Xn hs⟩,WE.2 fun x hx=>h2 x (WU hx)⟩
 ·unfold spl;rw[hn,On,hr,AX,←h3,WI,Ax];have e1:(X.take (szN a.length b.length j*k)).length=szN a.length b.length j*k:=by rw[Ob];omega
  rw[e1,Wf (by omega),O3,Ax,←hf,Wf (Wb _)];simp
structure zqs (k c:Nat) (rows:List (List C)) (B:List C):Prop where
 fit:rows.length<=c
 max:c<=9223372036854775807
 len:B.length=c*k
 stay:(B.all C.stayB)=true
 cells:B.take (rows.length*k)=rows.flatten
theorem zqs.ok {c e i:Nat} {rows:List (List C)} {B:List C} {bx:List (List C)} (h:zqs k c rows B) (hb:bx[i]?=some B) (h0:0<rows.length) (hk:∀ r∈rows,r.length=k):zb3 [(i,e,k,rows,c)] bx:=
 zaD hb (WM h0 h.fit) h.fit h.max h.len hk h.stay h.cells
section
variable {G:zt}
theorem x9 (a b:List (List C)) (ka:∀ r∈a,r.length=5) (kb:∀ r∈b,r.length=5) (sa:ji a) (sb:ji b) (la:a.length<=90000) (lb:b.length<=90000) (h0:0<a.length+b.length) :
  YJ Tryz.prog G 130 [.sl 1 [[.sl 5 a],[.sl 5 b]]] [] 0 (fun r bx n=>n=0/\∃ c B,zqs 5 c (a++b) B/\r = .bs 0 0 5 (a++b).length c/\bx = [B]):=by
 refine foX (fun i=>if i=1000000+37 then [true,true] else []) Tryz.func130 ?_;dsimp only[Tryz.f130];push_cast;refine loop (fun j:Nat=>⟨[(0,.sl 1 [[.sl 5 a],[.sl 5 b]]),(2,.sc (.slice none 0 0)),(3,.sc (.int .i64 (szN a.length b.length j:Nat))),(9,.sl 1 [[.sl 5 a],[.sl 5 b]]),(10,.sc (.int .i64 2)),(11,.sc (.int .i64 j))],[],0,0⟩) (fun j=>j<=2) (fun j=>2-j) 0 (by decide) ?_ ?_
 ·exact wk (by push_cast [ze,zd,CLe,zg,szN])
 intro j hj;obtain rfl | rfl | rfl:j=0∨j=1∨j=2:=by omega
 ·have hn:(((a.length:Int))<0)=False:=Wu (by omega);push_cast [szN,hn];exact ⟨⟨by omega,by omega⟩,1,by decide,by decide,wk (by push_cast [ze,zd,CLe,zg,szN])⟩
 ·have hn:(((a.length:Int)+(b.length:Int))<0)=False:=Wu (by omega);push_cast [szN,hn];exact ⟨⟨by omega,by omega⟩,2,by decide,by decide,wk (by push_cast [ze,zd,CLe,zg,szN])⟩
 ·push_cast [szN];refine ju [] [] (zfN (G:=G) (a.length+b.length) (by omega) (by omega)) rfl (by decide) (by decide) (by simp) (by push_cast) (by push_cast) (fun r bx' m hp=>?_);obtain ⟨rfl,c,B,h1,h2,h3,h4,rfl,rfl⟩:=hp;have hre:∀ fp fo,C.reL fp fo B=B:=fun fp fo=>zG h4;push_cast [hre];refine loop (fun p:Nat×List C=>⟨[(0,.sl 1 [[.sl 5 a],[.sl 5 b]]),(6,.bs 0 0 5 (szN a.length b.length p.1) c),(25,.sl 1 [[.sl 5 a],[.sl 5 b]]),(26,.sc (.int .i64 2)),(27,.sc (.int .i64 p.1))],[p.2],0,0⟩) (fun p=>p.1<=2/\G5 5 c a b p.1 p.2) (fun p=>2-p.1) (0,B) ⟨Wc _,h3,h4,by simp[szN,zrI]⟩ ?_ ?_
  ·exact JW.mk [] rfl rfl (Wc _) rfl (by push_cast [ze,zd,CLe,zg,szN]) (by (push_cast [ze,zd,CLe,zg];exact zV h4))
  rintro ⟨j,X⟩ ⟨hj,hX⟩;have hj:j<=2:=hj;obtain rfl | rfl | rfl:j=0∨j=1∨j=2:=by omega
  ·have hs:=hX.step (r:=a) rfl (by simp[szN]) ka sa (by simp[szN];omega);push_cast [szN];refine Q3 zlr zjF rfl rfl (by decide) rfl (zM ka) rfl (by rw[hX.len];omega) (Wc _) (by omega) (by omega) (fun hc=>?_) (fun hc=>absurd hc (by omega));push_cast;have hs:G5 5 c a b 1 (spl X 0 a.flatten):=by simpa [szN] using hs
   exact ⟨(1,spl X 0 a.flatten),⟨Nat.le_succ 1,hs⟩,by (simp only;omega),JW.mk [] rfl rfl (Wc _) rfl (by push_cast [ze,zd,CLe,zg,szN]) (by (push_cast [ze,zd,CLe,zg];exact zV hs.stay))⟩
  ·have hs:=hX.step (r:=b) rfl (by simp[szN]) kb sb (by simp[szN];omega);push_cast [szN];refine Q3 zlr zjF rfl rfl (by decide) rfl (zM kb) rfl (by rw[hX.len];omega) (by omega) (by omega) (by omega) (fun hc=>?_) (fun hc=>absurd hc (by omega));push_cast;have hs:G5 5 c a b 2 (spl X (a.length*5) b.flatten):=by simpa [szN] using hs
   exact ⟨(2,spl X (a.length*5) b.flatten),⟨Wb 2,hs⟩,by (simp only;omega),JW.mk [] rfl rfl (Wc _) rfl (by push_cast [ze,zd,CLe,zg,szN]) (by (push_cast [ze,zd,CLe,zg];exact zV hs.stay))⟩
  ·push_cast [szN];exact ⟨_,[X],0,⟨⟨rfl,c,X,⟨by rw[Wi];omega,h2,hX.len,hX.stay,by rw[Wi];exact hX.cells⟩,rfl,rfl⟩,Wc _⟩,[],rfl,rfl,by (push_cast [ze,zd,CLe,zg];exact zV hX.stay),by push_cast [ze,zd,CLe,zg,Wi]⟩
theorem yo (a b:List (List C)) (ka:∀ r∈a,r.length=1) (kb:∀ r∈b,r.length=1) (sa:ji a) (sb:ji b) (la:a.length<=90000) (lb:b.length<=90000) (h0:0<a.length+b.length) :
  YJ Tryz.prog G 70 [.sl 1 [[.sl 1 a],[.sl 1 b]]] [] 0 (fun r bx n=>n=0/\∃ c B,zqs 1 c (a++b) B/\r = .bs 0 0 1 (a++b).length c/\bx = [B]):=by
 refine foX (fun i=>if i=1000000+30 then [true,true] else []) Tryz.func70 ?_;dsimp only[Tryz.f70];push_cast;refine loop (fun j:Nat=>⟨[(0,.sl 1 [[.sl 1 a],[.sl 1 b]]),(2,.sc (.slice none 0 0)),(3,.sc (.int .i64 (szN a.length b.length j:Nat))),(9,.sl 1 [[.sl 1 a],[.sl 1 b]]),(10,.sc (.int .i64 2)),(11,.sc (.int .i64 j))],[],0,0⟩) (fun j=>j<=2) (fun j=>2-j) 0 (by decide) ?_ ?_
 ·exact wk (by push_cast [ze,zd,CLe,zg,szN])
 intro j hj;obtain rfl | rfl | rfl:j=0∨j=1∨j=2:=by omega
 ·have hn:(((a.length:Int))<0)=False:=Wu (by omega);push_cast [szN,hn];exact ⟨⟨by omega,by omega⟩,1,by decide,by decide,wk (by push_cast [ze,zd,CLe,zg,szN])⟩
 ·have hn:(((a.length:Int)+(b.length:Int))<0)=False:=Wu (by omega);push_cast [szN,hn];exact ⟨⟨by omega,by omega⟩,2,by decide,by decide,wk (by push_cast [ze,zd,CLe,zg,szN])⟩
 ·push_cast [szN];refine ju [] [] (zhK (G:=G) (a.length+b.length) (by omega) (by omega)) rfl (by decide) (by decide) (by simp) (by push_cast) (by push_cast) (fun r bx' m hp=>?_);obtain ⟨rfl,c,B,h1,h2,h3,h4,rfl,rfl⟩:=hp;have hre:∀ fp fo,C.reL fp fo B=B:=fun fp fo=>zG h4;push_cast [hre];refine loop (fun p:Nat×List C=>⟨[(0,.sl 1 [[.sl 1 a],[.sl 1 b]]),(6,.bs 0 0 1 (szN a.length b.length p.1) c),(25,.sl 1 [[.sl 1 a],[.sl 1 b]]),(26,.sc (.int .i64 2)),(27,.sc (.int .i64 p.1))],[p.2],0,0⟩) (fun p=>p.1<=2/\G5 1 c a b p.1 p.2) (fun p=>2-p.1) (0,B) ⟨Wc _,h3,h4,by simp[szN,zrI]⟩ ?_ ?_
  ·exact JW.mk [] rfl rfl (Wc _) rfl (by push_cast [ze,zd,CLe,zg,szN]) (by (push_cast [ze,zd,CLe,zg];exact zV h4))
  rintro ⟨j,X⟩ ⟨hj,hX⟩;have hj:j<=2:=hj;obtain rfl | rfl | rfl:j=0∨j=1∨j=2:=by omega
  ·have hs:=hX.step (r:=a) rfl (by simp[szN]) ka sa (by simp[szN];omega);push_cast [szN];refine Q3 HY zh8 rfl rfl (by decide) rfl (zM ka) rfl (by rw[hX.len];omega) (Wc _) (by omega) (by omega) (fun hc=>?_) (fun hc=>absurd hc (by omega));push_cast;have hs:G5 1 c a b 1 (spl X 0 a.flatten):=by simpa [szN] using hs
   exact ⟨(1,spl X 0 a.flatten),⟨Nat.le_succ 1,hs⟩,by (simp only;omega),JW.mk [] rfl rfl (Wc _) rfl (by push_cast [ze,zd,CLe,zg,szN]) (by (push_cast [ze,zd,CLe,zg];exact zV hs.stay))⟩
  ·have hs:=hX.step (r:=b) rfl (by simp[szN]) kb sb (by simp[szN];omega);push_cast [szN];refine Q3 HY zh8 rfl rfl (by decide) rfl (zM kb) rfl (by rw[hX.len];omega) (by omega) (by omega) (by omega) (fun hc=>?_) (fun hc=>absurd hc (by omega));push_cast;have hs:G5 1 c a b 2 (spl X (a.length) b.flatten):=by simpa [szN] using hs
   exact ⟨(2,spl X (a.length) b.flatten),⟨Wb 2,hs⟩,by (simp only;omega),JW.mk [] rfl rfl (Wc _) rfl (by push_cast [ze,zd,CLe,zg,szN]) (by (push_cast [ze,zd,CLe,zg];exact zV hs.stay))⟩
  ·push_cast [szN];exact ⟨_,[X],0,⟨⟨rfl,c,X,⟨by rw[Wi];omega,h2,hX.len,hX.stay,by rw[Wi];exact hX.cells⟩,rfl,rfl⟩,Wc _⟩,[],rfl,rfl,by (push_cast [ze,zd,CLe,zg];exact zV hX.stay),by push_cast [ze,zd,CLe,zg,Wi]⟩
theorem xD:Fun Tryz.prog G 70 [.sl 1 [[.sl 1 []],[.sl 1 []]]] (.sl 1 []) 0:=by
 refine fon Tryz.func70 ?_;dsimp only[Tryz.f70];push_cast;refine loop (fun j:Nat=>⟨[(0,.sl 1 [[.sl 1 []],[.sl 1 []]]),(2,.sc (.slice none 0 0)),(3,.sc (.int .i64 0)),(9,.sl 1 [[.sl 1 []],[.sl 1 []]]),(10,.sc (.int .i64 2)),(11,.sc (.int .i64 j))],[],0,0⟩) (fun j=>j<=2) (fun j=>2-j) 0 (by decide) ?_ ?_
 ·exact wk
 intro j hj;obtain rfl | rfl | rfl:j=0∨j=1∨j=2:=by omega
 ·push_cast;exact ⟨1,by decide,by decide,wk⟩
 ·push_cast;exact ⟨2,by decide,by decide,wk⟩
 ·push_cast;refine cl zbF ?_;push_cast;refine loop (fun j:Nat=>⟨[(0,.sl 1 [[.sl 1 []],[.sl 1 []]]),(6,.own 0 9 1 []),(25,.sl 1 [[.sl 1 []],[.sl 1 []]]),(26,.sc (.int .i64 2)),(27,.sc (.int .i64 j))],[],1,0⟩) (fun j=>j<=2) (fun j=>2-j) 0 (by decide) ?_ ?_
  ·exact wks [.inr (9,1)]
  intro j hj;obtain rfl | rfl | rfl:j=0∨j=1∨j=2:=by omega
  ·push_cast;exact ⟨1,by decide,by decide,wks [.inl 0]⟩
  ·push_cast;exact ⟨2,by decide,by decide,wks [.inl 0]⟩
  ·push_cast;exact dn
end
end
end Go.Proofs.YtnpdbhbmakdklaaGreatDoor.Vcg
section
namespace Go.Proofs.YtnpdbhbmakdklaaGreatDoor.Kit
open Go.RowKit
theorem GE {a b:ByteArray} (h:a=b):Ending.returned (.string a) = .returned (.string b):=by rw[h]
def toL (s:ByteArray):Lz:=s.data.toList
def ofL (l:Lz):ByteArray:=⟨l.toArray⟩
@[simp] theorem zh1 (l:Lz):toL (ofL l)=l:=by simp[toL,ofL]
@[simp] theorem ztA (s:ByteArray):ofL (toL s)=s:=by cases s;simp[toL,ofL]
theorem Gz (a b:Lz):ofL a++ofL b=ofL (a++b):=ByteArray.mk_append_mk a b
theorem NP (s:ByteArray):(toL s).length=s.size:=WW
theorem Z6 (l:Lz):(ofL l).size=l.length:=by rw[←NP,zh1]
def join (sep:ByteArray) (xs:List ByteArray):ByteArray:=⟨(Lib.join (xs.map (·.data.toList)) sep.data.toList).toArray⟩
theorem join_one (sep x:ByteArray):join sep [x]=x:=by
 cases x;simp[join,Lib.join_one]
end Go.Proofs.YtnpdbhbmakdklaaGreatDoor.Kit
end
section
namespace Go.Proofs.YtnpdbhbmakdklaaGreatDoor.Kit
open Go.RowKit
def byteCells (l:Lz):Array Value:=(l.map fun c=>Value.int .u8 (c.toNat:Int)).toArray
theorem kD (w:World) (l:Lz) (T:TypeId) (fr:Nat×Nat) (n:Nat) (hn:n=w.heap.size):Lib.Bytes (w.alloc (.cells (byteCells l) T fr)) n 0 (ofL l):=by
 intro i h;subst hn;have h1:(w.alloc (.cells (byteCells l) T fr)).heap[w.heap.size]?=some (.cells (byteCells l) T fr):=by
  show (w.heap.push _)[w.heap.size]?=_;rw[Array.getElem?_push,if_pos rfl]
 simp only[World.cell?,h1];show (byteCells l)[0+i]?=_;have h2:i<l.length:=by rw[Z6]at h;exact h
 rw[Ov,byteCells,At,Ws,Wa h2]
 rfl
theorem Ng {P:Program} (w:World) (l:Lz) (src e dst:TypeId) (hs:P.underlying src=some (.slice e)) (he:P.underlying e=some (.int .u8)) (hd:P.underlying dst=some .string) (cs:Array Value) (hcs:cs=byteCells l) (fr:Nat×Nat) (m cap n:Nat) (hm:m=w.heap.size) (hn:n=l.length) :
  (convert src dst (.slice (some ⟨m,0,none⟩) n cap)).run P (w.alloc (.cells cs e fr)) = .ok (.string (ofL l)) (w.alloc (.cells cs e fr)):=by
 subst hcs hm hn;have:=Lib.run_convert_whole (P:=P) (w.alloc (.cells (byteCells l) e fr)) src e dst hs he hd w.heap.size 0 (ofL l) (kD w l e fr _ rfl) cap;rw[Z6]at this;exact this
end Go.Proofs.YtnpdbhbmakdklaaGreatDoor.Kit
end
section
namespace Go.Proofs.YtnpdbhbmakdklaaGreatDoor
open Go.RowKit
namespace QuoteWalk
open Kit QuotePlain
theorem xw {c:UInt8} (h:good c=false):¬(32:Int)<=(c.toNat:Int)∨((32:Int)<=(c.toNat:Int)/\¬(c.toNat:Int)<=126)∨((32:Int)<=(c.toNat:Int)/\(c.toNat:Int)<=126/\((c.toNat:Int) != 34)=false) ∨
  ((32:Int)<=(c.toNat:Int)/\(c.toNat:Int)<=126/\((c.toNat:Int) != 34)=true/\((c.toNat:Int) != 92)=false):=by
 simp only[good,Ou]at h;simp only[bne_iff_ne,ne_eq,bne_eq_false_iff_eq];omega
theorem Gc {c:UInt8} (h:good c=true):(32:Int)<=(c.toNat:Int)/\(c.toNat:Int)<=126/\((c.toNat:Int) != 34)=true/\((c.toNat:Int) != 92)=true:=by
 simp only[good,W6]at h;refine ⟨by omega,by omega,?_,?_⟩<;>(simp only[bne_iff_ne,ne_eq];omega)
theorem uI (c:UInt8) (w:World) :
  Calls Tryz.prog 198 #[.int .u8 c.toNat] w fun e w'=>e = .returned (.bool (good c))/\w=w':=by
 have hc:=c.toNat_lt;cases hg:good c with
 | true =>
  obtain ⟨g1,g2,g3,g4⟩:=Gc hg;clear hg
  go_enter Tryz.func198,Tryz.ntmps198
  go_wp2
  go_ret
  exact ⟨rfl,rfl⟩
 | false =>
  rcases xw hg with h | ⟨h0,h⟩ | ⟨h0,h1,h2⟩ | ⟨h0,h1,h2,h3⟩
  all_goals clear hg
  ·go_enter Tryz.func198,Tryz.ntmps198
   go_wp2
   go_ret
   exact ⟨rfl,rfl⟩
  ·go_enter Tryz.func198,Tryz.ntmps198
   go_wp2
   go_ret
   exact ⟨rfl,rfl⟩
  ·go_enter Tryz.func198,Tryz.ntmps198
   go_wp2
   go_ret
   exact ⟨rfl,rfl⟩
  ·go_enter Tryz.func198,Tryz.ntmps198
   go_wp2
   go_ret
   exact ⟨rfl,rfl⟩
theorem x7 (c:UInt8) (w:World) (hg:good c=true) :
  Calls Tryz.prog 110 #[.int .u8 c.toNat] w fun e w'=>e = .returned (.string (ofL (qb c)))/\Below w.heap.size w w':=by
 have hc:=c.toNat_lt;have hq:=Lib.hid (show qb c = [c] by rw[qb,if_pos hg]);obtain ⟨g1,g2,g3,g4⟩:=Gc hg;have hcv:=Ng (P:=Tryz.prog) w [c] 174 5 9 Tryz.underlying174 Tryz.underlying5 Tryz.underlying9 #[.int .u8 c.toNat] rfl (0,0) w.heap.size 1 1 rfl rfl;clear hg
 go_enter Tryz.func110,Tryz.ntmps110
 go_wp2
 go_ret
 exact ⟨by rw[hq.out];rfl,(W7 _ _).alloc (Wb _) _⟩
theorem ztQ (n:Nat) (h:n<16) (w:World):(Instr.index 9 (.string ⟨#[48,49,50,51,52,53,54,55,56,57,97,98,99,100,101,102]⟩) (.int .u8 (n:Int))).run Tryz.prog w = .ok (.int .u8 ((N4 n).toNat:Int)) w:=by
 rcases (by omega:n=0∨n=1∨n=2∨n=3∨n=4∨n=5∨n=6∨n=7∨n=8∨n=9∨n=10∨n=11∨n=12∨n=13∨n=14∨n=15) with rfl | rfl | rfl | rfl | rfl | rfl | rfl | rfl | rfl | rfl | rfl | rfl | rfl | rfl | rfl | rfl
 all_goals kernel_rfl
theorem zlF (c:UInt8) (w:World):(Instr.index 9 (.string ⟨#[48,49,50,51,52,53,54,55,56,57,97,98,99,100,101,102]⟩) (.int .u8 ((c.toNat:Int) / 16))).run Tryz.prog w = .ok (.int .u8 ((N4 (c.toNat / 16)).toNat:Int)) w:=
 ztQ (c.toNat / 16) (by have:=c.toNat_lt;omega) w
theorem zmc (c:UInt8) (w:World):(Instr.index 9 (.string ⟨#[48,49,50,51,52,53,54,55,56,57,97,98,99,100,101,102]⟩) (.int .u8 ((c.toNat:Int) % 16))).run Tryz.prog w = .ok (.int .u8 ((N4 (c.toNat % 16)).toNat:Int)) w:=
 ztQ (c.toNat % 16) (by omega) w
theorem zmL (c:UInt8):IntKind.u8.wrap ((c.toNat:Int) / 16)=(c.toNat:Int) / 16:=by
 have:=c.toNat_lt;exact IntWalk.u8_in _ (by omega)
theorem znr (c:UInt8):IntKind.u8.wrap ((c.toNat:Int) % 16)=(c.toNat:Int) % 16:=by
 have:=c.toNat_lt;exact IntWalk.u8_in _ (by omega)
theorem znR (c:UInt8):(c.toNat:Int).tmod 16=(c.toNat:Int) % 16:=Int.tmod_eq_emod_of_nonneg (by omega)
theorem ue (c:UInt8) (w:World) (hg:good c=false) :
  Calls Tryz.prog 110 #[.int .u8 c.toNat] w fun e w'=>e = .returned (.string (ofL (qb c)))/\Below w.heap.size w w':=by
 have hc:=c.toNat_lt;have hq:=Lib.hid (show qb c = [92,120,N4 (c.toNat / 16),N4 (c.toNat % 16)] by rw[qb,hg];rfl);have hb:=xw hg;have x1:=zlF c;have x2:=zmc c;have y1:=zmL c;have y2:=znr c;have y3:=znR c;have hcv:=fun w2:World=>Ng (P:=Tryz.prog) w2 [92,120,N4 (c.toNat / 16),N4 (c.toNat % 16)] 174 5 9 Tryz.underlying174 Tryz.underlying5 Tryz.underlying9 #[.int .u8 92,.int .u8 120,.int .u8 (N4 (c.toNat / 16)).toNat,.int .u8 (N4 (c.toNat % 16)).toNat] rfl (0,0) w2.heap.size 4 4 rfl rfl;clear hg;rcases hb with h | ⟨h0,h⟩ | ⟨h0,h1,h2⟩ | ⟨h0,h1,h2,h3⟩
 ·go_enter Tryz.func110,Tryz.ntmps110
  go_wp2
  go_still_tail 6,(by kernel_rfl)
  change wpList _ _ _ _ _ w.drew;obtain ⟨w2,hw2,hsz⟩:∃ w2:World,Below w.heap.size w w2/\w2=w.drew:=⟨_,(W7 _ _).drew,rfl⟩;rw[←hsz];clear hsz
  go_wp2
  go_ret
  exact ⟨by rw[hq.out];rfl,hw2.alloc hw2.size _⟩
 ·go_enter Tryz.func110,Tryz.ntmps110
  go_wp2
  go_still_tail 6,(by kernel_rfl)
  change wpList _ _ _ _ _ w.drew;obtain ⟨w2,hw2,hsz⟩:∃ w2:World,Below w.heap.size w w2/\w2=w.drew:=⟨_,(W7 _ _).drew,rfl⟩;rw[←hsz];clear hsz
  go_wp2
  go_ret
  exact ⟨by rw[hq.out];rfl,hw2.alloc hw2.size _⟩
 ·go_enter Tryz.func110,Tryz.ntmps110
  go_wp2
  go_still_tail 6,(by kernel_rfl)
  change wpList _ _ _ _ _ w.drew;obtain ⟨w2,hw2,hsz⟩:∃ w2:World,Below w.heap.size w w2/\w2=w.drew:=⟨_,(W7 _ _).drew,rfl⟩;rw[←hsz];clear hsz
  go_wp2
  go_ret
  exact ⟨by rw[hq.out];rfl,hw2.alloc hw2.size _⟩
 ·go_enter Tryz.func110,Tryz.ntmps110
  go_wp2
  go_still_tail 6,(by kernel_rfl)
  change wpList _ _ _ _ _ w.drew;obtain ⟨w2,hw2,hsz⟩:∃ w2:World,Below w.heap.size w w2/\w2=w.drew:=⟨_,(W7 _ _).drew,rfl⟩;rw[←hsz];clear hsz
  go_wp2
  go_ret
  exact ⟨by rw[hq.out];rfl,hw2.alloc hw2.size _⟩
theorem M3 (c:UInt8) (w:World) :
  Calls Tryz.prog 110 #[.int .u8 c.toNat] w fun e w'=>e = .returned (.string (ofL (qb c)))/\Below w.heap.size w w':=by
 cases h:good c with
 | true=>exact x7 c w h
 | false=>exact ue c w h
end QuoteWalk
end Go.Proofs.YtnpdbhbmakdklaaGreatDoor
end
section
namespace Go.Proofs
open YtnpdbhbmakdklaaGreatDoor
open Go.Shelf
def Tryz.zlays166_ren:Go.Shelf.Ren:=⟨fun | 166=>166 | 240=>199 | 276=>232 | n=>n,fun | 0=>0 | 3=>3 | 4=>4 | 9=>9 | 20=>20 | 37=>174 | 70=>218 | 72=>220 | 75=>223 | 164=>281 | 80=>226 | 5=>5 | n=>n,fun | n=>n⟩
theorem Tryz.zlays166:Go.Proofs.Lays.n166 Tryz.prog Tryz.zlays166_ren:={
 mixed:=by kernel_rfl
 f166:=Tryz.func166.trans (WA some (by kernel_rfl))
 f240:=Tryz.func199.trans (WA some (by kernel_rfl))
 f276:=Tryz.func232.trans (WA some (by kernel_rfl))
 t0:=Tryz.underlying0
 a0:=Tryz.isAgg0
 z0:=Tryz.sizeOf0
 v0:=Tryz.zeroValue0
 t3:=Tryz.underlying3
 a3:=Tryz.isAgg3
 z3:=Tryz.sizeOf3
 v3:=Tryz.zeroValue3
 t4:=Tryz.underlying4
 a4:=Tryz.isAgg4
 z4:=Tryz.sizeOf4
 v4:=Tryz.zeroValue4
 t9:=Tryz.underlying9
 a9:=Tryz.isAgg9
 z9:=Tryz.sizeOf9
 v9:=Tryz.zeroValue9
 t20:=Tryz.underlying20
 a20:=Tryz.isAgg20
 z20:=Tryz.sizeOf20
 v20:=Tryz.zeroValue20
 t37:=Tryz.underlying174
 a37:=Tryz.isAgg174
 z37:=Tryz.sizeOf174
 v37:=Tryz.zeroValue174
 t70:=Tryz.underlying218
 a70:=Tryz.isAgg218
 z70:=Tryz.sizeOf218
 v70:=Tryz.zeroValue218
 t72:=Tryz.underlying220
 a72:=Tryz.isAgg220
 z72:=Tryz.sizeOf220
 v72:=Tryz.zeroValue220
 t75:=Tryz.underlying223
 a75:=Tryz.isAgg223
 z75:=Tryz.sizeOf223
 v75:=Tryz.zeroValue223
 t164:=Tryz.underlying281
 a164:=Tryz.isAgg281
 z164:=Tryz.sizeOf281
 v164:=Tryz.zeroValue281 }
theorem Tryz.zBuilder_Extra_166:Builder.Extra Tryz.prog Tryz.zlays166_ren:={
 sizeBuilder:=by kernel_rfl
 liesBuilder:=by kernel_rfl
 t5:=Tryz.underlying5
 a5:=Tryz.isAgg5
 z5:=Tryz.sizeOf5
 v5:=Tryz.zeroValue5
 infoByte:=by kernel_rfl
 cellsByte:=by kernel_rfl
 sizeByte:=by kernel_rfl
 neB5:=by decide }
def Tryz.zlays167_ren:Go.Shelf.Ren:=⟨fun | 167=>197 | 240=>199 | 276=>232 | n=>n,fun | 0=>0 | 4=>4 | 5=>5 | 9=>9 | 20=>20 | 37=>174 | 70=>218 | 72=>220 | 75=>223 | 164=>281 | 80=>226 | n=>n,fun | n=>n⟩
theorem Tryz.zlays167:Go.Proofs.Lays.n167 Tryz.prog Tryz.zlays167_ren:={
 mixed:=by kernel_rfl
 f167:=Tryz.func197.trans (WA some (by kernel_rfl))
 f240:=Tryz.func199.trans (WA some (by kernel_rfl))
 f276:=Tryz.func232.trans (WA some (by kernel_rfl))
 t0:=Tryz.underlying0
 a0:=Tryz.isAgg0
 z0:=Tryz.sizeOf0
 v0:=Tryz.zeroValue0
 t4:=Tryz.underlying4
 a4:=Tryz.isAgg4
 z4:=Tryz.sizeOf4
 v4:=Tryz.zeroValue4
 t5:=Tryz.underlying5
 a5:=Tryz.isAgg5
 z5:=Tryz.sizeOf5
 v5:=Tryz.zeroValue5
 t9:=Tryz.underlying9
 a9:=Tryz.isAgg9
 z9:=Tryz.sizeOf9
 v9:=Tryz.zeroValue9
 t20:=Tryz.underlying20
 a20:=Tryz.isAgg20
 z20:=Tryz.sizeOf20
 v20:=Tryz.zeroValue20
 t37:=Tryz.underlying174
 a37:=Tryz.isAgg174
 z37:=Tryz.sizeOf174
 v37:=Tryz.zeroValue174
 t70:=Tryz.underlying218
 a70:=Tryz.isAgg218
 z70:=Tryz.sizeOf218
 v70:=Tryz.zeroValue218
 t72:=Tryz.underlying220
 a72:=Tryz.isAgg220
 z72:=Tryz.sizeOf220
 v72:=Tryz.zeroValue220
 t75:=Tryz.underlying223
 a75:=Tryz.isAgg223
 z75:=Tryz.sizeOf223
 v75:=Tryz.zeroValue223
 t164:=Tryz.underlying281
 a164:=Tryz.isAgg281
 z164:=Tryz.sizeOf281
 v164:=Tryz.zeroValue281 }
theorem Tryz.zBuilder_Extra_167:Builder.Extra Tryz.prog Tryz.zlays167_ren:={
 sizeBuilder:=by kernel_rfl
 liesBuilder:=by kernel_rfl
 t5:=Tryz.underlying5
 a5:=Tryz.isAgg5
 z5:=Tryz.sizeOf5
 v5:=Tryz.zeroValue5
 infoByte:=by kernel_rfl
 cellsByte:=by kernel_rfl
 sizeByte:=by kernel_rfl
 neB5:=by decide }
open Go.RowKit in
theorem Tryz.zBuilder_WriteByte (B b:Nat) (bs:List Value) (c:Int) (w:World) (h:Lib.IsBuilder 220 5 B b bs w) (hlen:bs.length+1<=140737488355328) (hBw:B<=w.heap.size) :
  Calls Tryz.prog 197 #[.pointer (some ⟨b,0,none⟩),.int .u8 c] w fun e w'=>e = .returned .nilIface/\(Lib.BuilderAt 220 5 B b (.pointer (some ⟨b,0,none⟩)) (bs++[.int .u8 c]) w'/\Below B w w'):=Any.Builder_WriteByte Tryz.zlays167 Tryz.zBuilder_Extra_167 B b bs c w h hlen hBw
open Go.RowKit in
theorem Tryz.zBuilder_WriteString (B b:Nat) (bs:List Value) (s:ByteArray) (w:World) (h:Lib.IsBuilder 220 5 B b bs w) (hlen:bs.length+s.size<=140737488355328) (hBw:B<=w.heap.size) :
  Calls Tryz.prog 166 #[.pointer (some ⟨b,0,none⟩),.string s] w fun e w'=>e = .returned (.tuple #[.int .i64 s.size,.nilIface])/\(Lib.BuilderAt 220 5 B b (.pointer (some ⟨b,0,none⟩)) (bs++Lib.strCells s) w'/\Below B w w'):=Any.Builder_WriteString Tryz.zlays166 Tryz.zBuilder_Extra_166 B b bs s w h hlen hBw
end Go.Proofs
end
section
namespace Go.Proofs.YtnpdbhbmakdklaaGreatDoor
open Go.RowKit
namespace QuoteWalk
open Kit QuotePlain
def pre (s:ByteArray) (k:Nat):Bs:=34 :: mid ((toL s).take k)
theorem zbi (s:ByteArray):pre s 0 = [34]:=by simp[pre,mid]
theorem za8 (s:ByteArray) (k:Nat) (h:k<s.size) {c:UInt8} (hc:s[k]=c):pre s (k+1)=pre s k++qb c:=by
 have h':k<(toL s).length:=by rw[NP];exact h
 have:(toL s)[k]=c:=hc;rw[pre,pre,OX h',this,mid,mid,Bm];simp
theorem zfv (s:ByteArray) (k:Nat) (h:s.size<=k):pre s k++[34]=quoteL (toL s):=by
 rw[pre,Wf (by rw[NP];exact h)];rfl
theorem zlM (c:UInt8):(qb c).length<=4:=by unfold qb;split<;>simp
theorem mid_len (l:Bs):(mid l).length<=4*l.length:=by
 induction l with
 | nil=>simp[mid]
 | cons c l ih =>
  have:=zlM c;simp only[mid,As,Wi,Wh]at ih ⊢;omega
theorem zev (s:ByteArray) (k:Nat):(pre s k).length<=1+4*k:=by
 have h1:=mid_len ((toL s).take k);have h2:((toL s).take k).length<=k:=List.length_take_le _ _;simp only[pre,Wh];omega
theorem refQuote_walk (s:ByteArray) (w:World) (hs:s.size<=1099511627776) :
  Calls Tryz.prog 63 #[.string s] w fun e w'=>e = .returned (.string (ofL (quoteL (toL s))))/\Below w.heap.size w w':=by
 go_enter Tryz.func63,Tryz.ntmps63
 go_wp2
 go_loopw [3,4] (fun o i wr=>∃ k:Nat,k<=s.size/\i = .int .i64 k/\o = .string (ofL (pre s k))/\Below w.heap.size w wr) (fun _ i _=>s.size-(intOf i).toNat)
 case atStart=>exact ⟨0,by omega,rfl,by rw[zbi];rfl,W7 _ _⟩
 case round =>
  obtain ⟨k,hk,rfl,rfl,hB⟩:=hrel;have hpl:=zev s k;have hps:(ofL (pre s k)).size<=1+4*k:=by rw[Z6];exact hpl
  by_cases hlt:k<s.size
  ·obtain ⟨c,hc⟩:∃ c,s[k]=c:=⟨_,rfl⟩;have hsn:=Lib.hid (za8 s k hlt hc);have hql:=zlM c;have hqs:(ofL (qb c)).size<=4:=by rw[Z6];exact hql
   generalize hp:ofL (pre s k)=p at *;have hp':=Lib.hid hp;clear hp
   go_wp2_with fail
   refine (M3 c _).mono ?_;rintro e w1 ⟨rfl,hb1⟩;generalize hq:ofL (qb c)=q at *;have hq':=Lib.hid hq;clear hq
   go_wp2
   go_roundw
   case rel=>exact ⟨k+1,by omega,by go_num,by rw[hsn.out,←Gz,hp'.out,hq'.out],hB.trans (hb1.mono hB.size)⟩
   case measure=>simp[intOf];omega
  ·have hfin:=Lib.hid (zfv s k (by omega));generalize hp:ofL (pre s k)=p at *;have hp':=Lib.hid hp;clear hp
   go_wp2
   go_ret
   exact ⟨GE (by rw[←hp'.out,←hfin.out,←Gz];rfl),hB⟩
def Bld (B:Nat) (l:Bs) (w:World):Prop:=Lib.BuilderAt 220 5 B B (.pointer (some ⟨B,0,none⟩)) (Lib.byteCells l) w
theorem Bld.alloc {B:Nat} {l:Bs} {w:World} (h:Bld B l w) (o:Obj):Bld B l (w.alloc o):=by
 obtain ⟨h1,v,h2,h3,h4⟩:=h;refine ⟨h1,v,?_,h3.alloc o,h4⟩;rw[Lib.alloc_old _ _ _ (Az.1 h2).1];exact h2
theorem Bld.drew {B:Nat} {l:Bs} {w:World} (h:Bld B l w):Bld B l w.drew:=h
theorem ML (B:Nat) (l:Bs) (c:UInt8) (w:World) (h:Bld B l w) (hl:l.length<140737488355328) (hB:B<=w.heap.size) :
  Calls Tryz.prog 197 #[.pointer (some ⟨B,0,none⟩),.int .u8 (c.toNat:Int)] w fun e w'=>e = .returned .nilIface/\Bld B (l++[c]) w'/\Below B w w':=by
 refine (Tryz.zBuilder_WriteByte B B (Lib.byteCells l) c.toNat w (.inr h) (by rw[Lib.byteCells_length];omega) hB).mono ?_;rintro e w' ⟨h1,h2,h3⟩;exact ⟨h1,by rw[Bld,Lib.byteCells_append];exact h2,h3⟩
theorem zbM (w:World) (c:UInt8) :
  Calls Tryz.prog 197 #[.pointer (some ⟨w.heap.size,0,none⟩),.int .u8 (c.toNat:Int)] (w.alloc (.cells #[.pointer none,.slice none 0 0] 220 (0,0))) fun e w'=>e = .returned .nilIface/\Bld w.heap.size [c] w'/\Below w.heap.size w w':=by
 refine (Tryz.zBuilder_WriteByte w.heap.size w.heap.size [] c.toNat _ (Lib.fresh_isBuilder _ _ w) (by decide) (by simp)).mono ?_;rintro e w' ⟨h1,h2,h3⟩;exact ⟨h1,h2,((W7 _ _).alloc (Wb _) _).trans h3⟩
theorem ub (B:Nat) (l:Bs) (x:ByteArray) (w:World) (h:Bld B l w) (hl:l.length+x.size<=140737488355328) (hB:B<=w.heap.size) :
  Calls Tryz.prog 166 #[.pointer (some ⟨B,0,none⟩),.string x] w fun e w'=>e = .returned (.tuple #[.int .i64 x.size,.nilIface])/\Bld B (l++toL x) w'/\Below B w w':=by
 refine (Tryz.zBuilder_WriteString B B (Lib.byteCells l) x w (.inr h) (by rw[Lib.byteCells_length];omega) hB).mono ?_;rintro e w' ⟨h1,h2,h3⟩;exact ⟨h1,by rw[Bld,Lib.byteCells_append];exact h2,h3⟩
theorem zhv (B:Nat) (l:Bs) (w:World) (h:Bld B l w) (hB:B<=w.heap.size) :
  Calls Tryz.prog 167 #[.pointer (some ⟨B,0,none⟩)] w fun e w'=>e = .returned (.string (ofL l))/\Below B w w':=
 Tryz.Builder_String_any B B l w (.inr h) hB
theorem zrN (c:UInt8):bits BinOp.and IntKind.u8 (c.toNat:Int) 15=(c.toNat:Int) % 16:=by
 have:=zh2 (p:=fun c=>decide (bits BinOp.and IntKind.u8 (c.toNat:Int) 15=(c.toNat:Int) % 16)) (by decide +kernel) c;exact WR this
theorem quote_walk (s:ByteArray) (w:World) (hs:s.size<=1099511627776) :
  Calls Tryz.prog 163 #[.string s] w fun e w'=>e = .returned (.string (ofL (quoteL (toL s))))/\Below w.heap.size w w':=by
 go_enter Tryz.func163,Tryz.ntmps163
 go_wp2_with fail
 refine (zbM w 34).mono ?_;rintro e w1 ⟨rfl,hI1,hB1⟩
 go_wp2_with fail
 go_loopw [9] (fun i wr=>∃ k:Nat,k<=s.size/\i = .int .i64 k/\Bld w.heap.size (pre s k) wr/\Below w.heap.size w wr) (fun i _=>s.size-(intOf i).toNat)
 case atStart=>exact ⟨0,by omega,rfl,by rw[zbi];exact hI1,hB1⟩
 case round =>
  obtain ⟨k,hk,rfl,hI,hB⟩:=hrel;clear hI1 hB1;have hpl:=zev s k;by_cases hlt:k<s.size
  ·obtain ⟨c,hc⟩:∃ c,s[k]=c:=⟨_,rfl⟩;have hsn:=Lib.hid (za8 s k hlt hc)
   go_wp2_with fail
   refine (uI c _).mono ?_;rintro e w' ⟨rfl,rfl⟩;cases hg:good c with
   | true =>
    have hq:=Lib.hid (show qb c = [c] by rw[qb,if_pos hg]);clear hg
    go_wp2_with fail
    refine (ML w.heap.size (pre s k) c _ hI (by omega) hB.size).mono ?_;rintro e w2 ⟨rfl,hI2,hb2⟩
    go_wp2
    go_roundw
    case rel=>exact ⟨k+1,by omega,by go_num,by rw[hsn.out,hq.out];exact hI2,hB.trans hb2⟩
    case measure=>simp[intOf];omega
   | false =>
    have hq:=Lib.hid (show qb c = [92,120,N4 (c.toNat / 16),N4 (c.toNat % 16)] by rw[qb,hg];rfl);clear hg;have x1:=zlF c;have x2:=zmc c;have x3:=zrN c;have hcv:=fun w2:World=>Ng (P:=Tryz.prog) w2 [92,120,N4 (c.toNat / 16),N4 (c.toNat % 16)] 174 5 9 Tryz.underlying174 Tryz.underlying5 Tryz.underlying9 #[.int .u8 92,.int .u8 120,.int .u8 (N4 (c.toNat / 16)).toNat,.int .u8 (N4 (c.toNat % 16)).toNat] rfl (0,0) w2.heap.size 4 4 rfl rfl
    go_wp2_with fail
    go_still_tail 6,(by kernel_rfl)
    change wpList _ _ _ _ _ wr.drew;obtain ⟨w2,hw2,hI2,hsz⟩:∃ w2:World,Below w.heap.size w w2/\Bld w.heap.size (pre s k) w2/\w2=wr.drew:=⟨_,hB.drew,hI.drew,rfl⟩;rw[←hsz];clear hsz hI hB
    go_wp2_with fail
    refine (ub w.heap.size (pre s k) (ofL [92,120,N4 (c.toNat / 16),N4 (c.toNat % 16)]) _ (hI2.alloc _) (by rw[Z6];show _+4<=_;omega) (by have:=hw2.size;simp;omega)).mono ?_;rintro e w3 ⟨rfl,hI3,hb3⟩;rw[zh1]at hI3;have hB3:=(hw2.alloc hw2.size _).trans hb3;clear hb3 hcv x1 x2 x3 hI2
    go_wp2
    go_roundw
    case rel=>exact ⟨k+1,by omega,by go_num,by rw[hsn.out,hq.out];exact hI3,hB3⟩
    case measure=>simp[intOf];omega
  ·have hfin:=Lib.hid (zfv s k (by omega))
   go_wp2_with fail
   refine (ML w.heap.size (pre s k) 34 _ hI (by omega) hB.size).mono ?_;rintro e w2 ⟨rfl,hI2,hb2⟩
   go_wp2_with fail
   refine (zhv w.heap.size _ _ hI2 (hB.trans hb2).size).mono ?_;rintro e w3 ⟨rfl,hb3⟩
   go_wp2
   go_ret
   exact ⟨GE (by rw[hfin.out]),(hB.trans hb2).trans hb3⟩
end QuoteWalk
end Go.Proofs.YtnpdbhbmakdklaaGreatDoor
end
namespace Go.Proofs.YtnpdbhbmakdklaaGreatDoor.Vcg
variable {k N:Nat} {w:qV} {f:FsV} {args:List C} {n p:Int} {ns:List Lz} {l:List (Int×Int)} {xs:List zo} {d:zW} {b v:Lz}
section
open Go.RowKit
def phr:List Lz:=[[],[99,97,110,110,111,116,32,99,114,101,97,116,101,32,100,105,114,101,99,116,111,114,121,32,65,58,32,69],[99,97,110,110,111,116,32,114,101,109,111,118,101,32,65,58,32,69],[114,101,102,117,115,105,110,103,32,116,111,32,114,101,109,111,118,101,32,34,46,34,32,111,114,32,34,46,46,34,32,100,105,114,101,99,116,111,114,121,58,32,115,107,105,112,112,105,110,103,32,65],[105,116,32,105,115,32,100,97,110,103,101,114,111,117,115,32,116,111,32,111,112,101,114,97,116,101,32,114,101,99,117,114,115,105,118,101,108,121,32,111,110,32,65],[102,97,105,108,101,100,32,116,111,32,97,99,99,101,115,115,32,65,58,32,69],[65,58,32,104,97,114,100,32,108,105,110,107,32,110,111,116,32,97,108,108,111,119,101,100,32,102,111,114,32,100,105,114,101,99,116,111,114,121],[102,97,105,108,101,100,32,116,111,32,99,114,101,97,116,101,32,104,97,114,100,32,108,105,110,107,32,66,58,32,69],[102,97,105,108,101,100,32,116,111,32,99,114,101,97,116,101,32,115,121,109,98,111,108,105,99,32,108,105,110,107,32,66,58,32,69],[65,32,97,110,100,32,66,32,97,114,101,32,116,104,101,32,115,97,109,101,32,102,105,108,101],[116,97,114,103,101,116,32,65,32,105,115,32,110,111,116,32,97,32,100,105,114,101,99,116,111,114,121],[99,97,110,110,111,116,32,115,116,97,116,32,65,58,32,69],[99,97,110,110,111,116,32,111,118,101,114,119,114,105,116,101,32,110,111,110,45,100,105,114,101,99,116,111,114,121,32,66,32,119,105,116,104,32,100,105,114,101,99,116,111,114,121,32,65],[99,97,110,110,111,116,32,111,118,101,114,119,114,105,116,101,32,100,105,114,101,99,116,111,114,121,32,66,32,119,105,116,104,32,110,111,110,45,100,105,114,101,99,116,111,114,121,32,65],[99,97,110,110,111,116,32,109,111,118,101,32,65,32,116,111,32,97,32,115,117,98,100,105,114,101,99,116,111,114,121,32,111,102,32,105,116,115,101,108,102,44,32,66],[99,97,110,110,111,116,32,109,111,118,101,32,65,32,116,111,32,66,58,32,69],[45,114,32,110,111,116,32,115,112,101,99,105,102,105,101,100,59,32,111,109,105,116,116,105,110,103,32,100,105,114,101,99,116,111,114,121,32,65],[99,97,110,110,111,116,32,99,114,101,97,116,101,32,114,101,103,117,108,97,114,32,102,105,108,101,32,66,58,32,69],[99,97,110,110,111,116,32,99,114,101,97,116,101,32,115,121,109,98,111,108,105,99,32,108,105,110,107,32,66,58,32,69],[99,97,110,110,111,116,32,99,111,112,121,32,97,32,100,105,114,101,99,116,111,114,121,44,32,65,44,32,105,110,116,111,32,105,116,115,101,108,102,44,32,66],[110,111,116,32,119,114,105,116,105,110,103,32,116,104,114,111,117,103,104,32,100,97,110,103,108,105,110,103,32,115,121,109,108,105,110,107,32,66],[101,114,114,111,114,32,119,114,105,116,105,110,103,32,66,58,32,69],[99,97,110,110,111,116,32,99,114,101,97,116,101,32,100,105,114,101,99,116,111,114,121,32,66,58,32,69]]
def ztG:List Lz:=[[83,117,99,99,101,115,115],[78,111,32,115,117,99,104,32,102,105,108,101,32,111,114,32,100,105,114,101,99,116,111,114,121],[70,105,108,101,32,101,120,105,115,116,115],[78,111,116,32,97,32,100,105,114,101,99,116,111,114,121],[73,115,32,97,32,100,105,114,101,99,116,111,114,121],[68,105,114,101,99,116,111,114,121,32,110,111,116,32,101,109,112,116,121],[84,111,111,32,109,97,110,121,32,108,101,118,101,108,115,32,111,102,32,115,121,109,98,111,108,105,99,32,108,105,110,107,115],[70,105,108,101,32,110,97,109,101,32,116,111,111,32,108,111,110,103],[78,111,32,115,112,97,99,101,32,108,101,102,116,32,111,110,32,100,101,118,105,99,101],[73,110,118,97,108,105,100,32,97,114,103,117,109,101,110,116],[68,101,118,105,99,101,32,111,114,32,114,101,115,111,117,114,99,101,32,98,117,115,121],[79,112,101,114,97,116,105,111,110,32,110,111,116,32,112,101,114,109,105,116,116,101,100],[77,97,108,102,111,114,109,101,100,32,116,101,120,116],[78,111,116,32,105,110,32,116,104,101,32,115,116,97,115,104]]
def zrD:List Value:=[.string ⟨#[]⟩,.string ⟨#[]⟩,.int .i64 0,.string ⟨#[109,107,100,105,114]⟩,.string ⟨#[112]⟩,.int .i64 1,.string ⟨#[114,109]⟩,.string ⟨#[82,100,102,114]⟩,.int .i64 1,.string ⟨#[108,110]⟩,.string ⟨#[84,102,110,115]⟩,.int .i64 1,.string ⟨#[109,118]⟩,.string ⟨#[84,102,110]⟩,.int .i64 2,.string ⟨#[99,112]⟩,.string ⟨#[80,82,84,102,110,114]⟩,.int .i64 2]
def G2:zt:=fun g=>if g=1 then some (phr.map C.str) else if g=0 then some (zrD.map zF) else if g=2 then some (ztG.map C.str) else none
theorem zpp:G2 1=some [.str [],.str [99,97,110,110,111,116,32,99,114,101,97,116,101,32,100,105,114,101,99,116,111,114,121,32,65,58,32,69],.str [99,97,110,110,111,116,32,114,101,109,111,118,101,32,65,58,32,69],.str [114,101,102,117,115,105,110,103,32,116,111,32,114,101,109,111,118,101,32,34,46,34,32,111,114,32,34,46,46,34,32,100,105,114,101,99,116,111,114,121,58,32,115,107,105,112,112,105,110,103,32,65],.str [105,116,32,105,115,32,100,97,110,103,101,114,111,117,115,32,116,111,32,111,112,101,114,97,116,101,32,114,101,99,117,114,115,105,118,101,108,121,32,111,110,32,65],.str [102,97,105,108,101,100,32,116,111,32,97,99,99,101,115,115,32,65,58,32,69],.str [65,58,32,104,97,114,100,32,108,105,110,107,32,110,111,116,32,97,108,108,111,119,101,100,32,102,111,114,32,100,105,114,101,99,116,111,114,121],.str [102,97,105,108,101,100,32,116,111,32,99,114,101,97,116,101,32,104,97,114,100,32,108,105,110,107,32,66,58,32,69],.str [102,97,105,108,101,100,32,116,111,32,99,114,101,97,116,101,32,115,121,109,98,111,108,105,99,32,108,105,110,107,32,66,58,32,69],.str [65,32,97,110,100,32,66,32,97,114,101,32,116,104,101,32,115,97,109,101,32,102,105,108,101],.str [116,97,114,103,101,116,32,65,32,105,115,32,110,111,116,32,97,32,100,105,114,101,99,116,111,114,121],.str [99,97,110,110,111,116,32,115,116,97,116,32,65,58,32,69],.str [99,97,110,110,111,116,32,111,118,101,114,119,114,105,116,101,32,110,111,110,45,100,105,114,101,99,116,111,114,121,32,66,32,119,105,116,104,32,100,105,114,101,99,116,111,114,121,32,65],.str [99,97,110,110,111,116,32,111,118,101,114,119,114,105,116,101,32,100,105,114,101,99,116,111,114,121,32,66,32,119,105,116,104,32,110,111,110,45,100,105,114,101,99,116,111,114,121,32,65],.str [99,97,110,110,111,116,32,109,111,118,101,32,65,32,116,111,32,97,32,115,117,98,100,105,114,101,99,116,111,114,121,32,111,102,32,105,116,115,101,108,102,44,32,66],.str [99,97,110,110,111,116,32,109,111,118,101,32,65,32,116,111,32,66,58,32,69],.str [45,114,32,110,111,116,32,115,112,101,99,105,102,105,101,100,59,32,111,109,105,116,116,105,110,103,32,100,105,114,101,99,116,111,114,121,32,65],.str [99,97,110,110,111,116,32,99,114,101,97,116,101,32,114,101,103,117,108,97,114,32,102,105,108,101,32,66,58,32,69],.str [99,97,110,110,111,116,32,99,114,101,97,116,101,32,115,121,109,98,111,108,105,99,32,108,105,110,107,32,66,58,32,69],.str [99,97,110,110,111,116,32,99,111,112,121,32,97,32,100,105,114,101,99,116,111,114,121,44,32,65,44,32,105,110,116,111,32,105,116,115,101,108,102,44,32,66],.str [110,111,116,32,119,114,105,116,105,110,103,32,116,104,114,111,117,103,104,32,100,97,110,103,108,105,110,103,32,115,121,109,108,105,110,107,32,66],.str [101,114,114,111,114,32,119,114,105,116,105,110,103,32,66,58,32,69],.str [99,97,110,110,111,116,32,99,114,101,97,116,101,32,100,105,114,101,99,116,111,114,121,32,66,58,32,69]]:=rfl
theorem ziv:G2 0=some [.str [],.str [],.sc (.int .i64 0),.str [109,107,100,105,114],.str [112],.sc (.int .i64 1),.str [114,109],.str [82,100,102,114],.sc (.int .i64 1),.str [108,110],.str [84,102,110,115],.sc (.int .i64 1),.str [109,118],.str [84,102,110],.sc (.int .i64 2),.str [99,112],.str [80,82,84,102,110,114],.sc (.int .i64 2)]:=rfl
theorem zna:G2 2=some [.str [83,117,99,99,101,115,115],.str [78,111,32,115,117,99,104,32,102,105,108,101,32,111,114,32,100,105,114,101,99,116,111,114,121],.str [70,105,108,101,32,101,120,105,115,116,115],.str [78,111,116,32,97,32,100,105,114,101,99,116,111,114,121],.str [73,115,32,97,32,100,105,114,101,99,116,111,114,121],.str [68,105,114,101,99,116,111,114,121,32,110,111,116,32,101,109,112,116,121],.str [84,111,111,32,109,97,110,121,32,108,101,118,101,108,115,32,111,102,32,115,121,109,98,111,108,105,99,32,108,105,110,107,115],.str [70,105,108,101,32,110,97,109,101,32,116,111,111,32,108,111,110,103],.str [78,111,32,115,112,97,99,101,32,108,101,102,116,32,111,110,32,100,101,118,105,99,101],.str [73,110,118,97,108,105,100,32,97,114,103,117,109,101,110,116],.str [68,101,118,105,99,101,32,111,114,32,114,101,115,111,117,114,99,101,32,98,117,115,121],.str [79,112,101,114,97,116,105,111,110,32,110,111,116,32,112,101,114,109,105,116,116,101,100],.str [77,97,108,102,111,114,109,101,100,32,116,101,120,116],.str [78,111,116,32,105,110,32,116,104,101,32,115,116,97,115,104]]:=rfl
attribute [push_cast] zpp ziv zna
def jn (k:Int):Lz:=if k=1 then [109,107,100,105,114] else if k=2 then [114,109] else if k=3 then [108,110] else if k=4 then [109,118] else if k=5 then [99,112] else []
def qE (k:Int):Lz:=if k=1 then [99,97,110,110,111,116,32,99,114,101,97,116,101,32,100,105,114,101,99,116,111,114,121,32,65,58,32,69] else if k=2 then [99,97,110,110,111,116,32,114,101,109,111,118,101,32,65,58,32,69] else if k=3 then [114,101,102,117,115,105,110,103,32,116,111,32,114,101,109,111,118,101,32,34,46,34,32,111,114,32,34,46,46,34,32,100,105,114,101,99,116,111,114,121,58,32,115,107,105,112,112,105,110,103,32,65] else if k=4 then [105,116,32,105,115,32,100,97,110,103,101,114,111,117,115,32,116,111,32,111,112,101,114,97,116,101,32,114,101,99,117,114,115,105,118,101,108,121,32,111,110,32,65] else if k=5 then [102,97,105,108,101,100,32,116,111,32,97,99,99,101,115,115,32,65,58,32,69] else if k=6 then [65,58,32,104,97,114,100,32,108,105,110,107,32,110,111,116,32,97,108,108,111,119,101,100,32,102,111,114,32,100,105,114,101,99,116,111,114,121] else if k=7 then [102,97,105,108,101,100,32,116,111,32,99,114,101,97,116,101,32,104,97,114,100,32,108,105,110,107,32,66,58,32,69] else if k=8 then [102,97,105,108,101,100,32,116,111,32,99,114,101,97,116,101,32,115,121,109,98,111,108,105,99,32,108,105,110,107,32,66,58,32,69] else if k=9 then [65,32,97,110,100,32,66,32,97,114,101,32,116,104,101,32,115,97,109,101,32,102,105,108,101] else if k=10 then [116,97,114,103,101,116,32,65,32,105,115,32,110,111,116,32,97,32,100,105,114,101,99,116,111,114,121] else if k=11 then [99,97,110,110,111,116,32,115,116,97,116,32,65,58,32,69] else if k=12 then [99,97,110,110,111,116,32,111,118,101,114,119,114,105,116,101,32,110,111,110,45,100,105,114,101,99,116,111,114,121,32,66,32,119,105,116,104,32,100,105,114,101,99,116,111,114,121,32,65] else if k=13 then [99,97,110,110,111,116,32,111,118,101,114,119,114,105,116,101,32,100,105,114,101,99,116,111,114,121,32,66,32,119,105,116,104,32,110,111,110,45,100,105,114,101,99,116,111,114,121,32,65] else if k=14 then [99,97,110,110,111,116,32,109,111,118,101,32,65,32,116,111,32,97,32,115,117,98,100,105,114,101,99,116,111,114,121,32,111,102,32,105,116,115,101,108,102,44,32,66] else if k=15 then [99,97,110,110,111,116,32,109,111,118,101,32,65,32,116,111,32,66,58,32,69] else if k=16 then [45,114,32,110,111,116,32,115,112,101,99,105,102,105,101,100,59,32,111,109,105,116,116,105,110,103,32,100,105,114,101,99,116,111,114,121,32,65] else if k=17 then [99,97,110,110,111,116,32,99,114,101,97,116,101,32,114,101,103,117,108,97,114,32,102,105,108,101,32,66,58,32,69] else if k=18 then [99,97,110,110,111,116,32,99,114,101,97,116,101,32,115,121,109,98,111,108,105,99,32,108,105,110,107,32,66,58,32,69] else if k=19 then [99,97,110,110,111,116,32,99,111,112,121,32,97,32,100,105,114,101,99,116,111,114,121,44,32,65,44,32,105,110,116,111,32,105,116,115,101,108,102,44,32,66] else if k=20 then [110,111,116,32,119,114,105,116,105,110,103,32,116,104,114,111,117,103,104,32,100,97,110,103,108,105,110,103,32,115,121,109,108,105,110,107,32,66] else if k=21 then [101,114,114,111,114,32,119,114,105,116,105,110,103,32,66,58,32,69] else if k=22 then [99,97,110,110,111,116,32,99,114,101,97,116,101,32,100,105,114,101,99,116,111,114,121,32,66,58,32,69] else []
def UT (k:Int):Lz:=if k=0 then [83,117,99,99,101,115,115] else if k=1 then [78,111,32,115,117,99,104,32,102,105,108,101,32,111,114,32,100,105,114,101,99,116,111,114,121] else if k=2 then [70,105,108,101,32,101,120,105,115,116,115] else if k=3 then [78,111,116,32,97,32,100,105,114,101,99,116,111,114,121] else if k=4 then [73,115,32,97,32,100,105,114,101,99,116,111,114,121] else if k=5 then [68,105,114,101,99,116,111,114,121,32,110,111,116,32,101,109,112,116,121] else if k=6 then [84,111,111,32,109,97,110,121,32,108,101,118,101,108,115,32,111,102,32,115,121,109,98,111,108,105,99,32,108,105,110,107,115] else if k=7 then [70,105,108,101,32,110,97,109,101,32,116,111,111,32,108,111,110,103] else if k=8 then [78,111,32,115,112,97,99,101,32,108,101,102,116,32,111,110,32,100,101,118,105,99,101] else if k=9 then [73,110,118,97,108,105,100,32,97,114,103,117,109,101,110,116] else if k=10 then [68,101,118,105,99,101,32,111,114,32,114,101,115,111,117,114,99,101,32,98,117,115,121] else if k=11 then [79,112,101,114,97,116,105,111,110,32,110,111,116,32,112,101,114,109,105,116,116,101,100] else if k=12 then [77,97,108,102,111,114,109,101,100,32,116,101,120,116] else if k=13 then [78,111,116,32,105,110,32,116,104,101,32,115,116,97,115,104] else [85,110,107,110,111,119,110,32,101,114,114,111,114]
theorem xJ (k:Int):Fun Tryz.prog G2 117 [.sc (.int .i64 k)] (.str (jn k)) 0:=by
 by_cases h1:1<=k
 ·by_cases h2:k<=5
  ·have hc:k=1∨k=2∨k=3∨k=4∨k=5:=by omega
   clear h1 h2;rcases hc with rfl | rfl | rfl | rfl | rfl
   all_goals
    refine fon Tryz.func117 ?_;dsimp only[Tryz.f117];push_cast;exact ⟨[],rfl,rfl,by simp only[jn];push_cast [ze,zd,CLe,zg]<;>rfl⟩
  ·have n1:¬k=1:=(by omega);have n2:¬k=2:=(by omega);have n3:¬k=3:=(by omega);have n4:¬k=4:=(by omega);have n5:¬k=5:=(by omega);have f1:¬k<1:=(by omega);have f2:6<=k:=(by omega);have f3:5<k:=(by omega);refine fon Tryz.func117 ?_;dsimp only[Tryz.f117];push_cast [f1,f2,f3,n1,n2,n3,n4,n5];exact ⟨[],rfl,rfl,by push_cast [ze,zd,CLe,zg]<;>simp[jn,n1,n2,n3,n4,n5]⟩
 ·have n1:¬k=1:=(by omega);have n2:¬k=2:=(by omega);have n3:¬k=3:=(by omega);have n4:¬k=4:=(by omega);have n5:¬k=5:=(by omega);have f1:k<1:=by omega
  refine fon Tryz.func117 ?_;dsimp only[Tryz.f117];push_cast [f1,n1,n2,n3,n4,n5];exact ⟨[],rfl,rfl,by push_cast [ze,zd,CLe,zg]<;>simp[jn,n1,n2,n3,n4,n5]⟩
theorem Hg (k:Int):Fun Tryz.prog G0 38 [.sc (.int .i64 k)] (.str (jn k)) 0:=by
 by_cases h1:1<=k
 ·by_cases h2:k<=5
  ·have hc:k=1∨k=2∨k=3∨k=4∨k=5:=by omega
   clear h1 h2;rcases hc with rfl | rfl | rfl | rfl | rfl
   all_goals
    refine fon Tryz.func38 ?_;dsimp only[Tryz.f38];push_cast;exact ⟨[],rfl,rfl,by simp only[jn];push_cast [ze,zd,CLe,zg]<;>rfl⟩
  ·have n1:¬k=1:=(by omega);have n2:¬k=2:=(by omega);have n3:¬k=3:=(by omega);have n4:¬k=4:=(by omega);have n5:¬k=5:=(by omega);have f1:¬k<1:=(by omega);have f2:6<=k:=(by omega);have f3:5<k:=(by omega);refine fon Tryz.func38 ?_;dsimp only[Tryz.f38];push_cast [f1,f2,f3,n1,n2,n3,n4,n5];exact ⟨[],rfl,rfl,by push_cast [ze,zd,CLe,zg]<;>simp[jn,n1,n2,n3,n4,n5]⟩
 ·have n1:¬k=1:=(by omega);have n2:¬k=2:=(by omega);have n3:¬k=3:=(by omega);have n4:¬k=4:=(by omega);have n5:¬k=5:=(by omega);have f1:k<1:=by omega
  refine fon Tryz.func38 ?_;dsimp only[Tryz.f38];push_cast [f1,n1,n2,n3,n4,n5];exact ⟨[],rfl,rfl,by push_cast [ze,zd,CLe,zg]<;>simp[jn,n1,n2,n3,n4,n5]⟩
theorem zb5 (k:Int):Fun Tryz.prog G2 118 [.sc (.int .i64 k)] (.str (qE k)) 0:=by
 by_cases h1:0<=k
 ·by_cases h2:k<=22
  ·have hc:k=0∨k=1∨k=2∨k=3∨k=4∨k=5∨k=6∨k=7∨k=8∨k=9∨k=10∨k=11∨k=12∨k=13∨k=14∨k=15∨k=16∨k=17∨k=18∨k=19∨k=20∨k=21∨k=22:=by omega
   clear h1 h2;rcases hc with rfl | rfl | rfl | rfl | rfl | rfl | rfl | rfl | rfl | rfl | rfl | rfl | rfl | rfl | rfl | rfl | rfl | rfl | rfl | rfl | rfl | rfl | rfl
   all_goals
    refine fon Tryz.func118 ?_;dsimp only[Tryz.f118];push_cast;exact ⟨[],rfl,rfl,by simp only[qE];push_cast [ze,zd,CLe,zg]<;>rfl⟩
  ·have n1:¬k=1:=(by omega);have n2:¬k=2:=(by omega);have n3:¬k=3:=(by omega);have n4:¬k=4:=(by omega);have n5:¬k=5:=(by omega);have n6:¬k=6:=(by omega);have n7:¬k=7:=(by omega);have n8:¬k=8:=(by omega);have n9:¬k=9:=(by omega);have n10:¬k=10:=(by omega);have n11:¬k=11:=(by omega);have n12:¬k=12:=(by omega);have n13:¬k=13:=(by omega);have n14:¬k=14:=(by omega);have n15:¬k=15:=(by omega);have n16:¬k=16:=(by omega);have n17:¬k=17:=(by omega);have n18:¬k=18:=(by omega);have n19:¬k=19:=(by omega);have n20:¬k=20:=(by omega);have n21:¬k=21:=(by omega);have n22:¬k=22:=(by omega);have f1:¬k<0:=(by omega);have f2:23<=k:=(by omega);have f3:22<k:=(by omega);refine fon Tryz.func118 ?_;dsimp only[Tryz.f118];push_cast [f1,f2,f3,n1,n2,n3,n4,n5,n6,n7,n8,n9,n10,n11,n12,n13,n14,n15,n16,n17,n18,n19,n20,n21,n22];exact ⟨[],rfl,rfl,by push_cast [ze,zd,CLe,zg]<;>simp[qE,n1,n2,n3,n4,n5,n6,n7,n8,n9,n10,n11,n12,n13,n14,n15,n16,n17,n18,n19,n20,n21,n22]⟩
 ·have n1:¬k=1:=(by omega);have n2:¬k=2:=(by omega);have n3:¬k=3:=(by omega);have n4:¬k=4:=(by omega);have n5:¬k=5:=(by omega);have n6:¬k=6:=(by omega);have n7:¬k=7:=(by omega);have n8:¬k=8:=(by omega);have n9:¬k=9:=(by omega);have n10:¬k=10:=(by omega);have n11:¬k=11:=(by omega);have n12:¬k=12:=(by omega);have n13:¬k=13:=(by omega);have n14:¬k=14:=(by omega);have n15:¬k=15:=(by omega);have n16:¬k=16:=(by omega);have n17:¬k=17:=(by omega);have n18:¬k=18:=(by omega);have n19:¬k=19:=(by omega);have n20:¬k=20:=(by omega);have n21:¬k=21:=(by omega);have n22:¬k=22:=(by omega);have f1:k<0:=by omega
  refine fon Tryz.func118 ?_;dsimp only[Tryz.f118];push_cast [f1,n1,n2,n3,n4,n5,n6,n7,n8,n9,n10,n11,n12,n13,n14,n15,n16,n17,n18,n19,n20,n21,n22];exact ⟨[],rfl,rfl,by push_cast [ze,zd,CLe,zg]<;>simp[qE,n1,n2,n3,n4,n5,n6,n7,n8,n9,n10,n11,n12,n13,n14,n15,n16,n17,n18,n19,n20,n21,n22]⟩
theorem uO (k:Int):Fun Tryz.prog G2 164 [.sc (.int .i64 k)] (.str (UT k)) 0:=by
 by_cases h1:0<=k
 ·by_cases h2:k<=13
  ·have hc:k=0∨k=1∨k=2∨k=3∨k=4∨k=5∨k=6∨k=7∨k=8∨k=9∨k=10∨k=11∨k=12∨k=13:=by omega
   clear h1 h2;rcases hc with rfl | rfl | rfl | rfl | rfl | rfl | rfl | rfl | rfl | rfl | rfl | rfl | rfl | rfl
   all_goals
    refine fon Tryz.func164 ?_;dsimp only[Tryz.f164];push_cast;exact ⟨[],rfl,rfl,by simp only[UT];push_cast [ze,zd,CLe,zg]<;>rfl⟩
  ·have n0:¬k=0:=(by omega);have n1:¬k=1:=(by omega);have n2:¬k=2:=(by omega);have n3:¬k=3:=(by omega);have n4:¬k=4:=(by omega);have n5:¬k=5:=(by omega);have n6:¬k=6:=(by omega);have n7:¬k=7:=(by omega);have n8:¬k=8:=(by omega);have n9:¬k=9:=(by omega);have n10:¬k=10:=(by omega);have n11:¬k=11:=(by omega);have n12:¬k=12:=(by omega);have n13:¬k=13:=(by omega);have f1:¬k<0:=(by omega);have f2:14<=k:=(by omega);have f3:13<k:=(by omega);refine fon Tryz.func164 ?_;dsimp only[Tryz.f164];push_cast [f1,f2,f3,n0,n1,n2,n3,n4,n5,n6,n7,n8,n9,n10,n11,n12,n13];exact ⟨[],rfl,rfl,by push_cast [ze,zd,CLe,zg]<;>simp[UT,n0,n1,n2,n3,n4,n5,n6,n7,n8,n9,n10,n11,n12,n13]⟩
 ·have n0:¬k=0:=(by omega);have n1:¬k=1:=(by omega);have n2:¬k=2:=(by omega);have n3:¬k=3:=(by omega);have n4:¬k=4:=(by omega);have n5:¬k=5:=(by omega);have n6:¬k=6:=(by omega);have n7:¬k=7:=(by omega);have n8:¬k=8:=(by omega);have n9:¬k=9:=(by omega);have n10:¬k=10:=(by omega);have n11:¬k=11:=(by omega);have n12:¬k=12:=(by omega);have n13:¬k=13:=(by omega);have f1:k<0:=by omega
  refine fon Tryz.func164 ?_;dsimp only[Tryz.f164];push_cast [f1,n0,n1,n2,n3,n4,n5,n6,n7,n8,n9,n10,n11,n12,n13];exact ⟨[],rfl,rfl,by push_cast [ze,zd,CLe,zg]<;>simp[UT,n0,n1,n2,n3,n4,n5,n6,n7,n8,n9,n10,n11,n12,n13]⟩
theorem ME (k:Int):Fun Tryz.prog G0 135 [.sc (.int .i64 k)] (.str (UT k)) 0:=by
 by_cases h1:0<=k
 ·by_cases h2:k<=13
  ·have hc:k=0∨k=1∨k=2∨k=3∨k=4∨k=5∨k=6∨k=7∨k=8∨k=9∨k=10∨k=11∨k=12∨k=13:=by omega
   clear h1 h2;rcases hc with rfl | rfl | rfl | rfl | rfl | rfl | rfl | rfl | rfl | rfl | rfl | rfl | rfl | rfl
   all_goals
    refine fon Tryz.func135 ?_;dsimp only[Tryz.f135];push_cast;exact ⟨[],rfl,rfl,by simp only[UT];push_cast [ze,zd,CLe,zg]<;>rfl⟩
  ·have n0:¬k=0:=(by omega);have n1:¬k=1:=(by omega);have n2:¬k=2:=(by omega);have n3:¬k=3:=(by omega);have n4:¬k=4:=(by omega);have n5:¬k=5:=(by omega);have n6:¬k=6:=(by omega);have n7:¬k=7:=(by omega);have n8:¬k=8:=(by omega);have n9:¬k=9:=(by omega);have n10:¬k=10:=(by omega);have n11:¬k=11:=(by omega);have n12:¬k=12:=(by omega);have n13:¬k=13:=(by omega);have f1:¬k<0:=(by omega);have f2:14<=k:=(by omega);have f3:13<k:=(by omega);refine fon Tryz.func135 ?_;dsimp only[Tryz.f135];push_cast [f1,f2,f3,n0,n1,n2,n3,n4,n5,n6,n7,n8,n9,n10,n11,n12,n13];exact ⟨[],rfl,rfl,by push_cast [ze,zd,CLe,zg]<;>simp[UT,n0,n1,n2,n3,n4,n5,n6,n7,n8,n9,n10,n11,n12,n13]⟩
 ·have n0:¬k=0:=(by omega);have n1:¬k=1:=(by omega);have n2:¬k=2:=(by omega);have n3:¬k=3:=(by omega);have n4:¬k=4:=(by omega);have n5:¬k=5:=(by omega);have n6:¬k=6:=(by omega);have n7:¬k=7:=(by omega);have n8:¬k=8:=(by omega);have n9:¬k=9:=(by omega);have n10:¬k=10:=(by omega);have n11:¬k=11:=(by omega);have n12:¬k=12:=(by omega);have n13:¬k=13:=(by omega);have f1:k<0:=by omega
  refine fon Tryz.func135 ?_;dsimp only[Tryz.f135];push_cast [f1,n0,n1,n2,n3,n4,n5,n6,n7,n8,n9,n10,n11,n12,n13];exact ⟨[],rfl,rfl,by push_cast [ze,zd,CLe,zg]<;>simp[UT,n0,n1,n2,n3,n4,n5,n6,n7,n8,n9,n10,n11,n12,n13]⟩
open QuotePlain in
theorem yi (l:Lz) (hl:l.length<=1000000):Fun Tryz.prog G0 163 [.str l] (.str (quoteL l)) 0:=by
 refine Fun.wrap (by kernel_rfl) fun R vs h=>?_;obtain ⟨v1,us1,rfl,h1,h⟩:=zh.1 h;rw[zm]at h;subst h;rw[z6]at h1;subst h1;refine (QuoteWalk.quote_walk ⟨l.toArray⟩ R.w (by simp[ByteArray.size];omega)).mono ?_;rintro e w' ⟨rfl,hb⟩;exact ⟨_,rfl,hb,fun R' _=>z6.2 (by simp[Kit.ofL,Kit.toL])⟩
open QuotePlain in
theorem Yr (l:Lz) (hl:l.length<=1000000):Fun Tryz.prog G0 63 [.str l] (.str (quoteL l)) 0:=by
 refine Fun.wrap (by kernel_rfl) fun R vs h=>?_;obtain ⟨v1,us1,rfl,h1,h⟩:=zh.1 h;rw[zm]at h;subst h;rw[z6]at h1;subst h1;refine (QuoteWalk.refQuote_walk ⟨l.toArray⟩ R.w (by simp[ByteArray.size];omega)).mono ?_;rintro e w' ⟨rfl,hb⟩;exact ⟨_,rfl,hb,fun R' _=>z6.2 (by simp[Kit.ofL,Kit.toL])⟩
end
section
open Go.RowKit
theorem Fun.res {P:Program} {G:zt} {f:FuncId} {r r':C} {n:Nat} (h:Fun P G f args r n) (e:r=r'):Fun P G f args r' n:=e▸h
theorem Mr.glob0 {P:Program} {G':zt} {f:FuncId} {bx bx':List (List C)} {q:Nat} {r:C} {n:Nat} (h:Mr P G0 f args bx q r bx' n):Mr P G' f args bx q r bx' n:=
 ⟨h.1,fun R L vs hg=>h.2 R L vs fun g cs e=>by cases e⟩
theorem yJ.glob0 {P:Program} {G':zt} {f:FuncId} {first cap:List C} {bx items:List (List C)} (h:yJ P G0 f first cap bx items):yJ P G' f first cap bx items:=
 ⟨h.1,fun l st J R L us vs hg=>h.2 l st J R L us vs fun g cs e=>by cases e⟩
def Q8 (c:UInt8):Lz->List Lz
 | []=>[[]]
 | b :: l=>if b=c then [] :: Q8 c l else match Q8 c l with
  | []=>[[b]]
  | x :: r=>(b :: x) :: r
theorem ko (c:UInt8):∀ l:Lz,Lib.indexByte l c<0->Q8 c l = [l]
 | [],_=>rfl
 | b :: l,h=>by
  unfold Lib.indexByte at h;by_cases hb:b=c
  ·subst hb;simp at h
  ·have hb':(b==c)=false:=by simpa using hb
   rw[hb']at h;simp only[W0,Oi]at h;have hl:Lib.indexByte l c<0:=by
    split at h
    ·rename_i g;have:=OC.1 g;omega
    ·omega
   unfold Q8;rw[if_neg hb,ko c l hl]
theorem kl (c:UInt8):∀ l:Lz,-1<=Lib.indexByte l c
 | []=>Af _
 | b :: l=>by
  have:=kl c l;unfold Lib.indexByte;split
  ·decide
  ·split
   ·decide
   ·omega
theorem MZ (c:UInt8):∀ (l:Lz) (i:Nat),Lib.indexByte l c=(i:Int)->i<l.length/\Q8 c l=l.take i :: Q8 c (l.drop (i+1))
 | [],i,h=>by
  have h:(-1:Int)=(i:Int):=h;omega
 | b :: l,i,h=>by
  unfold Lib.indexByte at h;by_cases hb:b=c
  ·subst hb;simp at h;obtain rfl:i=0:=by omega
   refine ⟨by simp,?_⟩
   conv=>lhs;unfold Q8
   simp
  ·have hb':(b==c)=false:=by simpa using hb
   rw[hb']at h;simp only[W0,Oi]at h;split at h
   ·omega
   ·rename_i g;have g':Lib.indexByte l c≠-1:=by simpa using g
    have hg:=kl c l;obtain ⟨j,rfl⟩:∃ j,i=j+1:=⟨i-1,by omega⟩;have hj:Lib.indexByte l c=(j:Int):=by omega
    obtain ⟨h1,h2⟩:=MZ c l j hj;refine ⟨by simp;omega,?_⟩
    conv=>lhs;unfold Q8
    rw[if_neg hb,h2];simp
theorem U3 (c:UInt8) (l:Lz):(Q8 c l).length<=l.length+1:=by
 induction l with
 | nil=>simp[Q8]
 | cons b l ih =>
  unfold Q8;split
  ·simp;omega
  ·split
   ·simp
   ·rename_i x r h;rw[h]at ih;simp at ih ⊢;omega
theorem zdo (c:UInt8) (l:Lz):Fun Tryz.prog G0 192 [.str l,.str [c]] (.sc (.int .i64 (Lib.indexByte l c))) 0:=by
 refine Fun.wrap (by kernel_rfl) fun R vs h=>?_;obtain ⟨v1,us1,rfl,h1,h⟩:=zh.1 h;obtain ⟨v2,us2,rfl,h2,h⟩:=zh.1 h;rw[zm]at h;subst h;rw[z6]at h1 h2;subst h1 h2;refine (Tryz.strings_Index_one ⟨l.toArray⟩ c R.w).mono ?_;rintro e w' ⟨rfl,rfl⟩;exact ⟨_,rfl,W7 _ _,fun R' _=>zr.2 (by simp)⟩
theorem MC (c:UInt8) (s:Lz) (hs:s.length<=1000000):yJ Tryz.prog G0 190 [] [.ptr 1 0,.ptr 0 0,.ptr 2 0] [[.str s],[.str [c]],[.sc (.int .i64 0)]] (zE (Q8 c s)):=by
 refine foI (fun _=>[]) Tryz.func190 ?_;dsimp only[Tryz.f190];intro l sf;push_cast;refine loop (fun x:Lz×Nat=>⟨[(0,.sc (.func (.yield l) #[] #[])),(1,.ptr 1 0),(2,.ptr 0 0),(3,.ptr 2 0)],[[.str x.1],[.str [c]],[.sc (.int .i64 0)]],0,x.2⟩)
  (fun x=>x.1.length<=1000000/\(∃ done,Q8 c s=done++Q8 c x.1/\done.length=x.2)/\∀ j,j<x.2->sf j=false) (fun x=>x.1.length) (s,0) ⟨hs,⟨[],rfl,rfl⟩,fun j hj=>by omega⟩ ?_ ?_
 ·refine JW.mk [] rfl rfl (Wc _) rfl ?_ ?_<;>push_cast [ze,zd,CLe,zg]<;>omega
 ·rintro ⟨r,k⟩ hx;simp only at hx ⊢;have hr:=hx.1;have hsf:=hx.2.2;obtain ⟨done,hd,hdl⟩:=hx.2.1;clear hx;push_cast;refine call (zdo c r) ?_;push_cast;by_cases hi:Lib.indexByte r c<0
  ·push_cast [hi];have hk:(zE (Q8 c s))[k]?=some [.str r]:=by
    rw[hd,ko c r hi];simp[←hdl]
   rw[hk];push_cast;refine ⟨by push_cast [ze,zd,CLe,zg],hsf,?_⟩;cases hk2:sf k with
   | true=>exact .inr ⟨A5 k,hk2⟩
   | false =>
    refine .inl ⟨?_,fun j (hj:j<k+1)=>?_⟩
    ·rw[hd,ko c r hi];simp[hdl]
    ·rcases Wr j k with g | g
     ·exact hsf j g
     ·rw[show j=k by omega];exact hk2
  ·have hg:=kl c r;obtain ⟨i,hii⟩:∃ i:Nat,Lib.indexByte r c=(i:Int):=⟨(Lib.indexByte r c).toNat,by omega⟩;obtain ⟨hir,hsp⟩:=MZ c r i hii;have hk:(zE (Q8 c s))[k]?=some [.str (r.take i)]:=by
    rw[hd,hsp];simp[←hdl]
   rw[hii]at hi ⊢;push_cast [hi];rw[hk];push_cast;refine ⟨by omega,by omega,by push_cast [ze,zd,CLe,zg],hsf,br (fun hk2=>?_) (fun hk2=>?_)⟩
   ·push_cast;exact .inr ⟨A5 k,hk2⟩
   ·push_cast;refine ⟨by omega,by omega,(r.drop (i+1),k+1),⟨by simp;omega,⟨done++[r.take i],by rw[hd,hsp];simp,by simp[hdl]⟩,fun j (hj:j<k+1)=>?_⟩,by simp;omega,JW.mk [] rfl rfl (Wc _) rfl ?_ ?_⟩
    ·rcases Wr j k with g | g
     ·exact hsf j g
     ·rw[show j=k by omega];exact hk2
    ·push_cast [ze,zd,CLe,zg]
    ·push_cast [ze,zd,CLe,zg]
theorem NS (c:UInt8) (s:Lz):Mr Tryz.prog G0 161 [.str s,.str [c],.sc (.int .i64 0)] [] 0 (.clo (.func 190) [] [.ptr 1 0,.ptr 0 0,.ptr 2 0]) [[.str s],[.str [c]],[.sc (.int .i64 0)]] 0:=by
 refine foB (fun _=>[]) Tryz.func161 ?_;dsimp only[Tryz.f161];push_cast;exact ⟨[],rfl,rfl,by push_cast [ze,zd,CLe,zg],by push_cast [ze,zd,CLe,zg]⟩
theorem Na (c:UInt8) (s:Lz):Mr Tryz.prog G0 119 [.str s,.str [c]] [] 0 (.clo (.func 190) [] [.ptr 1 0,.ptr 0 0,.ptr 2 0]) [[.str s],[.str [c]],[.sc (.int .i64 0)]] 0:=by
 refine foB (fun _=>[]) Tryz.func119 ?_;dsimp only[Tryz.f119];push_cast;refine VX [] [] (NS c s) rfl (by simp) (by simp) (fun i hi=>by cases hi) (by push_cast) rfl ?_;push_cast;exact ⟨[],rfl,rfl,by push_cast [ze,zd,CLe,zg],by push_cast [ze,zd,CLe,zg]⟩
end
section
open CA CB
open Go.RowKit QuotePlain
def XO (l:Lz):Lz:=Lib.trimRightS l [58,44]
theorem zgB (l:Lz):(XO l).length<=l.length:=by
 unfold XO Lib.trimRightS;rw[List.length_reverse];have:=(List.dropWhile_sublist (([58,44]:Lz).contains ·) (l:=l.reverse)).length_le;rw[List.length_reverse]at this;exact this
theorem zi2 (l:Lz) (h0:l≠[]) (hl:l.length<=1000000):Fun Tryz.prog G0 162 [.str l,.str [58,44]] (.str (XO l)) 0:=by
 refine Fun.wrap (by kernel_rfl) fun R vs h=>?_;obtain ⟨v1,us1,rfl,h1,h⟩:=zh.1 h;obtain ⟨v2,us2,rfl,h2,h⟩:=zh.1 h;rw[zm]at h;subst h;rw[z6]at h1 h2;subst h1 h2;have hpos:=WB.2 h0;refine (Any.strings_TrimRight_set Tryz.lays162 H6 (by kernel_rfl) ⟨l.toArray⟩ ⟨#[58,44]⟩ R.w (by decide) (by simpa [ByteArray.size] using hpos) (by simp[ByteArray.size];omega) (by decide) (fun j b hb=>?_)).mono ?_
 ·match j,hb with
  | 0,hb=>cases hb;decide
  | 1,hb=>cases hb;decide
  | j+2,hb=>simp at hb
 ·rintro e w' ⟨rfl,rfl⟩;exact ⟨_,rfl,((W7 _ _).alloc (Wb _) _).alloc (by simp) _,fun R' _=>z6.2 (by simp[XO])⟩
def Ze (w qa qb m:Lz):Lz:=
 if XO w = [65] then qa++w.drop (XO w).length else if XO w = [66] then qb++w.drop (XO w).length else if XO w = [69] then m++w.drop (XO w).length else w
theorem Yu (l:Lz):(quoteL l).length<=4*l.length+2:=by
 have:=QuoteWalk.mid_len l;simp only[quoteL,Wh,Wi,Wz];omega
theorem GY (e:Int):(UT e).length<=100:=by
 have key:∀ (c:Prop) [Decidable c] (x y:Lz),x.length<=100->y.length<=100->(if c then x else y).length<=100:=fun c _ x y hx hy=>by
  by_cases h:c
  ·rw[if_pos h];exact hx
  ·rw[if_neg h];exact hy
 unfold UT
 repeat' (first | decide | refine key _ _ _ (by decide) ?_)
theorem MS (w a b:Lz) (e:Int) (ha:a.length<=3000) (hb:b.length<=3000):(Ze w (quoteL a) (quoteL b) (UT e)).length<=w.length+25000:=by
 have h1:=Yu a;have h2:=Yu b;have h3:=GY e;unfold Ze
 repeat' split
 all_goals (try simp only[Wi,W1]);omega
theorem zkl (w a b:Lz) (e:Int) (h0:w≠[]) (hw:w.length<=1000) (ha:a.length<=3000) (hb:b.length<=3000):Fun Tryz.prog G2 120 [.str w,.str a,.str b,.sc (.int .i64 e)] (.str (Ze w (quoteL a) (quoteL b) (UT e))) 0:=by
 have h1:=(zi2 w h0 (by omega)).glob0 (G':=G2);have h2:=(yi a (by omega)).glob0 (G':=G2);have h3:=(yi b (by omega)).glob0 (G':=G2);have h4:=uO e;have hl:=zgB w;have l1:=Yu a;have l2:=Yu b;have l3:=GY e;by_cases hA:XO w = [65]
 ·refine fon Tryz.func120 ?_;dsimp only[Tryz.f120];push_cast;refine cl h1 ?_;push_cast
  repeat refine an ?_
  push_cast [hA];refine cl h2 ?_;push_cast
  repeat refine an ?_
  exact ⟨[],rfl,rfl,by push_cast [ze,zd,CLe,zg]<;>simp[Ze,hA]⟩
 ·by_cases hB:XO w = [66]
  ·have hA':¬([66]:Lz) = [65]:=by decide
   refine fon Tryz.func120 ?_;dsimp only[Tryz.f120];push_cast;refine cl h1 ?_;push_cast
   repeat refine an ?_
   push_cast [hB,hA'];refine cl h3 ?_;push_cast
   repeat refine an ?_
   exact ⟨[],rfl,rfl,by push_cast [ze,zd,CLe,zg]<;>simp[Ze,hB]⟩
  ·by_cases hE:XO w = [69]
   ·have hA':¬([69]:Lz) = [65]:=by decide
    have hB':¬([69]:Lz) = [66]:=by decide
    refine fon Tryz.func120 ?_;dsimp only[Tryz.f120];push_cast;refine cl h1 ?_;push_cast
    repeat refine an ?_
    push_cast [hE,hA',hB'];refine cl h4 ?_;push_cast
    repeat refine an ?_
    exact ⟨[],rfl,rfl,by push_cast [ze,zd,CLe,zg]<;>simp[Ze,hE]⟩
   ·refine fon Tryz.func120 ?_;dsimp only[Tryz.f120];push_cast;refine cl h1 ?_;push_cast
    repeat refine an ?_
    push_cast [hA,hB,hE];exact ⟨[],rfl,rfl,by push_cast [ze,zd,CLe,zg]<;>simp[Ze,hA,hB,hE]⟩
theorem zla (xs:List Lz) (hx:xs.length<=1000001) (hl:(Lib.join xs [58,32]).length<=100000000):Fun Tryz.prog G0 121 [.sl 1 (zE xs)] (.str (Lib.join xs [58,32])) 0:=by
 refine fon Tryz.func121 ?_;dsimp only[Tryz.f121];push_cast;refine cl (Mh xs [58,32] hx hl) ?_;push_cast;exact dn
end
section
open CA CB
open Go.RowKit QuotePlain
abbrev Atm:=Nat ⊕ UInt8
def zsX (w:Lz):List Atm:=
 if XO w = [65] then .inl 0 :: (w.drop (XO w).length).map .inr else if XO w = [66] then .inl 1 :: (w.drop (XO w).length).map .inr else if XO w = [69] then .inl 2 :: (w.drop (XO w).length).map .inr else w.map .inr
def vA (qa qb m:Lz):Atm->Lz
 | .inl 0=>qa
 | .inl 1=>qb
 | .inl _=>m
 | .inr b=>[b]
def flA (qa qb m:Lz):List Atm->Lz
 | []=>[]
 | [a]=>vA qa qb m a
 | a :: b :: r=>vA qa qb m a++flA qa qb m (b :: r)
theorem YV (qa qb m:Lz):∀ l:List Atm,flA qa qb m l=l.flatMap (vA qa qb m)
 | []=>rfl
 | [a]=>by simp[flA]
 | a :: b :: r=>by rw[flA,YV qa qb m (b :: r)];rfl
def V1 (k:Int):List Atm:=List.intercalate [.inr 32] ((Q8 32 (qE k)).map zsX)
def zlv (k:Int) (qa qb m:Lz):Lz:=flA qa qb m (V1 k)
theorem zkN (qa qb m l:Lz):flA qa qb m (l.map .inr)=l:=by
 rw[YV]
 induction l with
 | nil=>rfl
 | cons b r ih=>exact WA (b :: ·) ih
theorem NG (qa qb m:Lz) (a:Atm) (l:List Atm):flA qa qb m (a :: l)=vA qa qb m a++flA qa qb m l:=by rw[YV,YV];rfl
theorem zkg (w qa qb m:Lz):Ze w qa qb m=flA qa qb m (zsX w):=by
 have h:=fun l=>zkN qa qb m l;unfold Ze zsX;split
 ·rw[NG,h];rfl
 ·split
  ·rw[NG,h];rfl
  ·split
   ·rw[NG,h];rfl
   ·rw[h]
theorem zh5 (qa qb m:Lz) (a b:List Atm):flA qa qb m (a++b)=flA qa qb m a++flA qa qb m b:=by rw[YV,YV,YV];exact Bm
theorem zbj (qa qb m:Lz):∀ ws:List (List Atm),flA qa qb m (List.intercalate [.inr 32] ws)=List.intercalate [32] (ws.map (flA qa qb m))
 | []=>rfl
 | [w]=>by simp[List.intercalate,List.intersperse]
 | w :: v :: r=>by
  have ih:=zbj qa qb m (v :: r);have e1:List.intercalate [(.inr 32:Atm)] (w :: v :: r)=w++([.inr 32]++List.intercalate [.inr 32] (v :: r)):=by simp[List.intercalate,List.intersperse]
  have e2:List.intercalate [(32:UInt8)] ((w :: v :: r).map (flA qa qb m))=flA qa qb m w++([32]++List.intercalate [32] ((v :: r).map (flA qa qb m))):=by simp[List.intercalate,List.intersperse]
  rw[e1,e2,zh5,zh5,ih]
  rfl
theorem Nq (k:Int) (qa qb m:Lz):Lib.join ((Q8 32 (qE k)).map fun w=>Ze w qa qb m) [32]=zlv k qa qb m:=by
 unfold zlv V1;rw[zbj,List.map_map];show List.intercalate [32] _=_;congr 1;exact A8 fun w _=>zkg w qa qb m
theorem NU (k:Int) (qa qb m:Lz) (h:qE k = []):zlv k qa qb m = []:=by
 unfold zlv V1;rw[h]
 rfl
theorem Zg (k:Int) (h:¬(1<=k/\k<=22)):qE k = []:=by
 have n1:¬k=1:=by omega
 have n2:¬k=2:=by omega
 have n3:¬k=3:=by omega
 have n4:¬k=4:=by omega
 have n5:¬k=5:=by omega
 have n6:¬k=6:=by omega
 have n7:¬k=7:=by omega
 have n8:¬k=8:=by omega
 have n9:¬k=9:=by omega
 have n10:¬k=10:=by omega
 have n11:¬k=11:=by omega
 have n12:¬k=12:=by omega
 have n13:¬k=13:=by omega
 have n14:¬k=14:=by omega
 have n15:¬k=15:=by omega
 have n16:¬k=16:=by omega
 have n17:¬k=17:=by omega
 have n18:¬k=18:=by omega
 have n19:¬k=19:=by omega
 have n20:¬k=20:=by omega
 have n21:¬k=21:=by omega
 have n22:¬k=22:=by omega
 simp only[qE,n1,n2,n3,n4,n5,n6,n7,n8,n9,n10,n11,n12,n13,n14,n15,n16,n17,n18,n19,n20,n21,n22,Oi]
theorem Ux (k:Int):qE k = []∨((∀ x∈Q8 32 (qE k),x≠[]/\x.length<=100)/\(qE k).length<=100):=by
 by_cases h:1<=k/\k<=22
 ·refine .inr ?_;have hc:k=1∨k=2∨k=3∨k=4∨k=5∨k=6∨k=7∨k=8∨k=9∨k=10∨k=11∨k=12∨k=13∨k=14∨k=15∨k=16∨k=17∨k=18∨k=19∨k=20∨k=21∨k=22:=by omega
  clear h;rcases hc with rfl | rfl | rfl | rfl | rfl | rfl | rfl | rfl | rfl | rfl | rfl | rfl | rfl | rfl | rfl | rfl | rfl | rfl | rfl | rfl | rfl | rfl<;>exact ⟨by decide +kernel,by decide +kernel⟩
 ·exact .inl (Zg k h)
theorem kN (f:Lz->Lz) (n:Nat):∀ xs:List Lz,(∀ x∈xs,(f x).length<=n)->((xs.map f).map fun x=>x.length+1).sum<=xs.length*(n+1)
 | [],_=>by simp
 | x :: r,h=>by
  have ih:=kN f n r fun y hy=>h y (Wn _ hy);have:=h x Wl;simp only[Wo,OY,Wh,On];omega
theorem GB (xs:List Lz) (sep:Lz) (n:Nat) (hs:sep.length<=1) (h:(xs.map fun x=>x.length+1).sum<=n):(Lib.join xs sep).length<=n:=by
 have key:∀ xs:List Lz,(Lib.join xs sep).length<=(xs.map fun x=>x.length+1).sum:=by
  intro xs
  match xs with
  | []=>simp[Lib.join]
  | [x]=>simp[Lib.join_one]
  | x :: y :: r =>
   have ih:∀ (zs:List Lz) (z:Lz),(Lib.join (z :: zs) sep).length<=((z :: zs).map fun x=>x.length+1).sum:=by
    intro zs
    induction zs with
    | nil=>intro z;simp[Lib.join_one]
    | cons u t iht =>
     intro z;rw[Jg];have:=iht u;simp only[Wi,Wo,OY]at this ⊢;omega
   exact ih (y :: r) x
 exact WL (key xs) h
def Jl (k w:Int) (a b:Lz) (e:Int):Lz:=
 if jn k = [] then [] else if qE w = [] then [] else jn k++[58,32]++zlv w (quoteL a) (quoteL b) (UT e)
theorem yq (k:Int):(jn k).length<=10:=by
 have key:∀ (c:Prop) [Decidable c] (x y:Lz),x.length<=10->y.length<=10->(if c then x else y).length<=10:=fun c _ x y hx hy=>by
  by_cases h:c
  ·rw[if_pos h];exact hx
  ·rw[if_neg h];exact hy
 unfold jn
 repeat' (first | decide | refine key _ _ _ (by decide) ?_)
theorem zkV (k w:Int) (a b:Lz) (e:Int) (ha:a.length<=3000) (hb:b.length<=3000):Fun Tryz.prog G2 71 [.sc (.int .i64 k),.sc (.int .i64 w),.str a,.str b,.sc (.int .i64 e)] (.str (Jl k w a b e)) 0:=by
 have h1:=xJ k;have h2:=zb5 w;have hnl:=yq k;by_cases hn:jn k = []
 ·rw[hn]at h1;refine fon Tryz.func71 ?_;dsimp only[Tryz.f71];push_cast;refine cl h1 ?_;push_cast;refine cl h2 ?_;push_cast;exact ⟨[],rfl,rfl,by push_cast [ze,zd,CLe,zg]<;>simp[Jl,hn]⟩
 by_cases hp:qE w = []
 ·rw[hp]at h2;refine fon Tryz.func71 ?_;dsimp only[Tryz.f71];push_cast;refine cl h1 ?_;push_cast;refine cl h2 ?_;push_cast [hn];exact ⟨[],rfl,rfl,by push_cast [ze,zd,CLe,zg]<;>simp[Jl,hn,hp]⟩
 obtain ⟨hws,hpl⟩:(∀ x∈Q8 32 (qE w),x≠[]/\x.length<=100)/\(qE w).length<=100:=(Ux w).resolve_left hp;have hpw:=hp;have hsay:=Nq w (quoteL a) (quoteL b) (UT e);have hsl:=U3 32 (qE w);have hsum:=kN (fun x=>Ze x (quoteL a) (quoteL b) (UT e)) 25100 (Q8 32 (qE w)) fun x hx=>by
  have:=MS x a b e ha hb;have:=(hws x hx).2;omega
 have hjl:=GB ((Q8 32 (qE w)).map fun x=>Ze x (quoteL a) (quoteL b) (UT e)) [32] 3000000 (by decide) (by
  have:(Q8 32 (qE w)).length*(25100+1)<=101*25101:=WT _ (by omega);omega)
 have hit:=MC 32 (qE w) (by omega);generalize qE w=P at h2 hp hws hpl hsay hsl hsum hjl hit;rw[hsay]at hjl;refine fof (fun i=>if i=7 then [false,false,false,false,false,false,false,true,true] else []) Tryz.func71 ?_;dsimp only[Tryz.f71];push_cast;refine cl h1 ?_;push_cast;refine cl h2 ?_;push_cast [hn,hp];refine VX [] [] ((Na 32 P).glob0) rfl (by simp) (by simp) (fun i hi=>by cases hi) (by push_cast) rfl ?_;push_cast;refine range (zE (Q8 32 P)) (fun _=>false) 4 (fun j=>⟨[],[[.str a],[.str b],[.sc (.int .i64 e)],[.own 0 9 1 (zE (((Q8 32 P).take j).map fun x=>Ze x (quoteL a) (quoteL b) (UT e)))]],1,0⟩) hit.glob0 (by push_cast) (by push_cast) (by push_cast) (Wc _) (by push_cast) (fun it h=>?_) (fun j _=>rfl) ?_ (fun j it hj hsf=>?_) (fun hsf=>?_)
 ·obtain ⟨x,_,rfl⟩:=WS.1 h;rfl
 ·exact wks [.inr (9,1)]
 ·obtain ⟨x,hx,rfl⟩:=QK hj;have hjl2:j<(Q8 32 P).length:=(Wd.1 hx).1;have hxw:=hws x (Wg hx);have hs1:=zkl x a b e hxw.1 (by omega) ha hb;push_cast;refine cl hs1 ?_;push_cast
  repeat refine an ?_
  refine JW.mk [.inl 0] rfl rfl (Wb _) rfl (by push_cast [ze,zd,CLe,zg]) ?_;push_cast [ze,zd,CLe,zg];rw[WX,hx];simp
 ·have htk:(Q8 32 P).take (Q8 32 P).length=Q8 32 P:=Of;have j1:=((Mh ((Q8 32 P).map fun x=>Ze x (quoteL a) (quoteL b) (UT e)) [32] (by rw[We];omega) (by rw[hsay];omega)).res (WA C.str hsay)).glob0 (G':=G2);have j2:=((zla [jn k,zlv w (quoteL a) (quoteL b) (UT e)] (by simp) (by rw[Jg,Lib.join_one];simp only[Wi,Wh,Wz];omega)).res (WA C.str (show _=Jl k w a b e by rw[Jg,Lib.join_one,Jl,if_neg hn,if_neg hpw]))).glob0 (G':=G2);push_cast [htk];refine cl j1 ?_;push_cast;refine cl j2 ?_;push_cast;exact dn
end
section
open CA CB
open Go.RowKit QuotePlain
theorem k22 {P:Int->Prop} (h:∀ n:Fin 22,P (n.val+1)) (k:Int) (hk:1<=k/\k<=22):P k:=by
 have:=h ⟨(k-1).toNat,by omega⟩;rw[show ((k-1).toNat:Int)+1=k by omega]at this;exact this
theorem zjV (k:Int) (qa qb m:Lz) (h:1<=k/\k<=22):zlv k qa qb m≠[]:=by
 have hA:((V1 k).any fun x=>x.isRight)=true:=k22 (P:=fun k=>((V1 k).any fun x=>x.isRight)=true) (by decide +kernel) k h;intro e;have e:flA qa qb m (V1 k) = []:=e;rw[YV]at e;obtain ⟨x,hx,hr⟩:=Oq.1 hA;have:=List.flatMap_eq_nil_iff.1 e x hx;cases x with
 | inl n=>cases hr
 | inr b=>cases this
theorem zn2 (k:Int) (a b:Lz) (e:Int) (ha:a.length<=3000) (hb:b.length<=3000):(zlv k (quoteL a) (quoteL b) (UT e)).length<=3000000:=by
 rw[←Nq];rcases Ux k with h | ⟨hws,hpl⟩
 ·rw[Nq,NU k _ _ _ h];exact Wc _
 have hsl:=U3 32 (qE k);have hsum:=kN (fun x=>Ze x (quoteL a) (quoteL b) (UT e)) 25100 (Q8 32 (qE k)) fun x hx=>by
  have:=MS x a b e ha hb;have:=(hws x hx).2;omega
 exact GB _ [32] 3000000 (by decide) (by
  have:(Q8 32 (qE k)).length*(25100+1)<=101*25101:=WT _ (by omega);omega)
theorem zk0 (k:Int) (qa qb m:Lz) (ha:qa.length<=100000) (hb:qb.length<=100000) (hm:m.length<=100000):Fun Tryz.prog G0 134 [.sc (.int .i64 k),.str qa,.str qb,.str m] (.str (zlv k qa qb m)) 0:=by
 by_cases h:1<=k/\k<=22
 ·have hc:k=1∨k=2∨k=3∨k=4∨k=5∨k=6∨k=7∨k=8∨k=9∨k=10∨k=11∨k=12∨k=13∨k=14∨k=15∨k=16∨k=17∨k=18∨k=19∨k=20∨k=21∨k=22:=by omega
  clear h;rcases hc with rfl | rfl | rfl | rfl | rfl | rfl | rfl | rfl | rfl | rfl | rfl | rfl | rfl | rfl | rfl | rfl | rfl | rfl | rfl | rfl | rfl | rfl
  all_goals
   refine fon Tryz.func134 ?_;dsimp only[Tryz.f134];push_cast
   repeat refine an ?_
   exact ⟨[],rfl,rfl,by push_cast [ze,zd,CLe,zg];(try simp only[WI]);kernel_rfl⟩
 ·have hn:=NU k qa qb m (Zg k h);have n1:¬k=1:=by omega
  have n2:¬k=2:=by omega
  have n3:¬k=3:=by omega
  have n4:¬k=4:=by omega
  have n5:¬k=5:=by omega
  have n6:¬k=6:=by omega
  have n7:¬k=7:=by omega
  have n8:¬k=8:=by omega
  have n9:¬k=9:=by omega
  have n10:¬k=10:=by omega
  have n11:¬k=11:=by omega
  have n12:¬k=12:=by omega
  have n13:¬k=13:=by omega
  have n14:¬k=14:=by omega
  have n15:¬k=15:=by omega
  have n16:¬k=16:=by omega
  have n17:¬k=17:=by omega
  have n18:¬k=18:=by omega
  have n19:¬k=19:=by omega
  have n20:¬k=20:=by omega
  have n21:¬k=21:=by omega
  have n22:¬k=22:=by omega
  refine fon Tryz.func134 ?_;dsimp only[Tryz.f134];push_cast [n1,n2,n3,n4,n5,n6,n7,n8,n9,n10,n11,n12,n13,n14,n15,n16,n17,n18,n19,n20,n21,n22];exact ⟨[],rfl,rfl,by push_cast [ze,zd,CLe,zg]<;>simp[hn]⟩
theorem xS (k w:Int) (a b:Lz) (e:Int) (ha:a.length<=3000) (hb:b.length<=3000):Fun Tryz.prog G0 80 [.sc (.int .i64 k),.sc (.int .i64 w),.str a,.str b,.sc (.int .i64 e)] (.str (Jl k w a b e)) 0:=by
 have l1:=Yu a;have l2:=Yu b;have l3:=GY e;have l4:=zn2 w a b e ha hb;have l5:=yq k;have h1:=Hg k;have h2:=Yr a (by omega);have h3:=Yr b (by omega);have h4:=ME e;have h5:=zk0 w (quoteL a) (quoteL b) (UT e) (by omega) (by omega) (by omega);by_cases hw:1<=w/\w<=22
 ·have hp:qE w≠[]:=k22 (P:=fun k=>qE k≠[]) (by decide +kernel) w hw;have hs:=zjV w (quoteL a) (quoteL b) (UT e) hw;by_cases hn:jn k = []
  ·rw[hn]at h1;refine fon Tryz.func80 ?_;dsimp only[Tryz.f80];push_cast;refine cl h1 ?_;push_cast;refine cl h2 ?_;push_cast;refine cl h3 ?_;push_cast;refine cl h4 ?_;push_cast;refine cl h5 ?_;push_cast;exact ⟨[],rfl,rfl,by push_cast [ze,zd,CLe,zg]<;>simp[Jl,hn]⟩
  ·refine fon Tryz.func80 ?_;dsimp only[Tryz.f80];push_cast;refine cl h1 ?_;push_cast;refine cl h2 ?_;push_cast;refine cl h3 ?_;push_cast;refine cl h4 ?_;push_cast;refine cl h5 ?_;push_cast [hn,hs]
   repeat refine an ?_
   exact ⟨[],rfl,rfl,by push_cast [ze,zd,CLe,zg]<;>simp[Jl,hn,hp]⟩
 ·have hp:=Zg w hw;have hs:=NU w (quoteL a) (quoteL b) (UT e) hp;rw[hs]at h5;by_cases hn:jn k = []
  ·rw[hn]at h1;refine fon Tryz.func80 ?_;dsimp only[Tryz.f80];push_cast;refine cl h1 ?_;push_cast;refine cl h2 ?_;push_cast;refine cl h3 ?_;push_cast;refine cl h4 ?_;push_cast;refine cl h5 ?_;push_cast;exact ⟨[],rfl,rfl,by push_cast [ze,zd,CLe,zg]<;>simp[Jl,hn]⟩
  ·refine fon Tryz.func80 ?_;dsimp only[Tryz.f80];push_cast;refine cl h1 ?_;push_cast;refine cl h2 ?_;push_cast;refine cl h3 ?_;push_cast;refine cl h4 ?_;push_cast;refine cl h5 ?_;push_cast [hn];exact ⟨[],rfl,rfl,by push_cast [ze,zd,CLe,zg]<;>simp[Jl,hn,hp]⟩
end
section
open CA CB
open Go.RowKit
def GD:zt:=fun g=>if g=3 then G1 g else G2 g
theorem zum (g:Nat) (cs:List C) (h:G1 g=some cs):GD g=some cs:=by
 unfold GD;by_cases hg:g=3
 ·rw[if_pos hg];exact h
 ·unfold G1 at h;rw[if_neg hg]at h;cases h
theorem zuv (g:Nat) (cs:List C) (h:G2 g=some cs):GD g=some cs:=by
 unfold GD;by_cases hg:g=3
 ·subst hg;have q:G2 3=none:=rfl;rw[q]at h;cases h
 ·rw[if_neg hg];exact h
theorem Fun.gd1 {f:FuncId} {r:C} {n:Nat} (h:Fun Tryz.prog G1 f args r n):Fun Tryz.prog GD f args r n:=h.glob zum
theorem Fun.gd2 {f:FuncId} {r:C} {n:Nat} (h:Fun Tryz.prog G2 f args r n):Fun Tryz.prog GD f args r n:=h.glob zuv
abbrev ztL (d:zW) (ops diags:C):C:=.agg [.sc (.int .i64 d.w.fs.maxI),.sc (.int .i64 d.w.fs.maxB),.sc (.int .i64 d.w.fs.next),.sl 6 (zu d.w.fs.xs),.sl 4 (zO d.w.kept),.sl 6 (zu d.w.pool),ops,diags,.sc (.int .i64 d.status),.sc (.int .i64 d.slot)]
structure zbA (d:zW):Prop where
 wi:UE d.w
 ws:zl4 d.w
 ops:d.ops.length<=80000
 diags:d.diags.length<=80000
 slot:0<=d.slot/\d.slot<=4000000000000000000
theorem zpk (o:OpV):opL o = [.sc (.int .i64 o.kind),.sc (.int .i64 o.slot),.str o.a,.str o.b,.str o.d]:=rfl
abbrev Nn:List C:=[.any,.any,.any,.any,.any]
abbrev xH:List C:=[.any,.any,.any,.any,.any,.any,.any,.any,.any,.any]
def Yj (d:zW) (x:Lz):zW:={ d with diags:=d.diags++[x],status:=1 }
theorem zoE (d:zW) (hd:d.diags.length<=80000) (k w:Int) (a b:Lz) (e:Int) (ha:a.length<=3000) (hb:b.length<=3000) :
  YJ Tryz.prog GD 40 [GQ d,.sc (.int .i64 k),.sc (.int .i64 w),.str a,.str b,.sc (.int .i64 e)] [] 0 (fun r bx n=>n=0/\∃ c B,zqs 1 c (zE (Yj d (Jl k w a b e)).diags) B/\r=ztL (Yj d (Jl k w a b e)) (.sl 5 (d.ops.map opL)) (.bs 2 0 1 (d.diags.length+1) c)/\bx = [xH,xH,B]):=by
 have ht:=(zkV k w a b e ha hb).gd2;generalize Jl k w a b e=x at ht ⊢;have hsl:(zE d.diags).length=d.diags.length:=We ..;have hc:=yo (G:=GD) (zE d.diags) [[.str x]] (fun r hr=>by obtain ⟨x,_,rfl⟩:=WS.1 hr;rfl) (fun r hr=>by rw[W3.1 hr];rfl) (fun r hr=>by obtain ⟨x,_,rfl⟩:=WS.1 hr;rfl) (fun r hr=>by rw[W3.1 hr];rfl) (by omega) (by simp) (by simp);refine foX (fun i=>if i=1 then [false,false,false,false,false,false,false,false,false,false,false,true,false,false,true] else []) Tryz.func40 ?_;dsimp only[Tryz.f40];push_cast;refine cl ht ?_;push_cast;refine ju [] [] hc rfl (by decide) (by decide) (by simp) (by push_cast) (by push_cast) (fun r bx' m hp=>?_);obtain ⟨rfl,c,B,hB,rfl,rfl⟩:=hp;have hre:∀ fp fo,C.reL fp fo B=B:=fun fp fo=>zG hB.stay;push_cast [hre];have hm:zE (Yj d x).diags=zE d.diags++[[.str x]]:=WY;exact ⟨_,[xH,xH,B],0,⟨⟨rfl,c,B,by rw[hm];exact hB,rfl,rfl⟩,Wc _⟩,[],rfl,rfl,by (push_cast [ze,zd,CLe,zg];exact zV hB.stay),by push_cast [ze,zd,CLe,zg,Yj,Wi,hsl]⟩
theorem zga (d:zW) (hd:d.diags.length<=80000) (k w:Int) (a b:Lz) (e:Int) (ha:a.length<=3000) (hb:b.length<=3000) :
  Fun Tryz.prog GD 40 [GQ d,.sc (.int .i64 k),.sc (.int .i64 w),.str a,.str b,.sc (.int .i64 e)] (ztL (Yj d (Jl k w a b e)) (.sl 5 (d.ops.map opL)) (.own 0 9 1 (zE (Yj d (Jl k w a b e)).diags))) 1:=
 (zoE d hd k w a b e ha hb).fun (by
  rintro r bx m ⟨rfl,c,B,hB,rfl,rfl⟩;exact ⟨[(2,9,1,zE (Yj d (Jl k w a b e)).diags,c)],[.inl 0],hB.ok rfl (by simp[Yj]) (fun r hr=>by obtain ⟨x,_,rfl⟩:=WS.1 hr;rfl),rfl,rfl,by push_cast [ze,zd,CLe,zg,We,Wi,Yj]⟩)
end
section
open CA CB
open Go.RowKit
end
section
open Go.RowKit
theorem yB (a b:List OpV) (ha:a.length<=100000):Fun Tryz.prog G0 32 [.sl 5 (zid a),.sl 5 (zid b)] (qQ (J7 a b)) 0:=by
 by_cases hl:a.length=b.length
 ·refine fon Tryz.func32 ?_;dsimp only[Tryz.f32];push_cast [hl];refine loop (fun k:Nat=>⟨[(0,.sl 5 (zid a)),(1,.sl 5 (zid b)),(5,.sc (.int .i64 k))],[],0,0⟩) (fun k=>k<=a.length/\∀ (j:Nat) (h:j<a.length) (h':j<b.length),j<k->zmO (a[j]'h) (b[j]'h')=true) (fun k=>a.length-k) 0 ⟨Wc _,fun j _ _ hj=>by omega⟩ ?_ ?_
  ·exact wk (by push_cast [ze,zd,CLe,zg,hl])
  ·intro k hk;have hk1:=hk.1;have hk2:=hk.2;by_cases h:k<a.length
   ·have hga:=zd6 a k h;have hgb:=zd6 b k (by omega);have heq:zmO (a[k]'h) (b[k]'(by omega))=zmO (a[k]'h) (b[k]'(by omega)):=rfl;simp only[opL]at hga hgb
    conv at heq=>lhs;unfold zmO
    cases he:zmO (a[k]'h) (b[k]'(by omega)) with
    | true =>
     rw[he]at heq;push_cast [h,hga,hgb,heq]
     repeat refine an ?_
     refine ⟨k+1,⟨by omega,fun j hj hj' hjk=>?_⟩,by omega,wk⟩;rcases Wr j k with g | g
     ·exact hk2 j hj hj' g
     ·have:j=k:=by omega
      subst this;exact he
    | false =>
     rw[he]at heq;push_cast [h,hga,hgb,heq]
     repeat refine an ?_
     refine ⟨[],rfl,rfl,?_⟩;push_cast [ze,zd,CLe,zg];have:¬J7 a b=true:=fun e=>by
      have:=((XJ a b).1 e).2 k h (by omega);rw[he]at this;cases this
     simp[this]
   ·push_cast [h];refine ⟨[],rfl,rfl,?_⟩;push_cast [ze,zd,CLe,zg];have:J7 a b=true:=(XJ a b).2 ⟨hl,fun j hj hj'=>hk2 j hj hj' (by omega)⟩;simp[this]
 ·refine fon Tryz.func32 ?_;dsimp only[Tryz.f32];push_cast [hl];refine ⟨[],rfl,rfl,?_⟩;push_cast [ze,zd,CLe,zg];have:¬J7 a b=true:=fun e=>hl ((XJ a b).1 e).1;simp[this]
end
section
open CA CB
open Go.RowKit
theorem xL (w:qV) (hk:w.kept.length<=100000) (hs:Qp w.kept):Fun Tryz.prog G0 13 [ZB w] (GQ (GV w)) 0:=by
 have h:=kM (G:=G0) w hk hs.1 hs.2;refine fof (fun i=>if i=1 then [false,false,false,false,true] else []) Tryz.func13 ?_;dsimp only[Tryz.f13];push_cast;refine cl h ?_;push_cast;exact dn (by push_cast [ze,zd,CLe,zg,GV])
end
section
open CA CB
open Go.RowKit
structure zuN where
 path:Lz
 ino:Int
deriving DecidableEq,Inhabited
def Hb (p n:Lz):Lz:=if p = [47] then p++n else p++[47]++n
theorem zgQ (p n:Lz):(Hb p n).length<=p.length+1+n.length:=by
 unfold Hb;split<;>simp<;>omega
section
variable {G:zt}
end
end
section
open CA CB
open Go.RowKit
def zo8 (xs:List zo):Prop:=xs.length<=3240/\∀ x∈xs,x.data.length<=5000/\x.es.length<=3240/\∀ e∈x.es,e.name.length<=300
abbrev J3:=List (List Lz×zo)
structure zbh (f:FsV) (tr:Int->List Lz->J3):Prop where
 has:∀ n ns,zk n f.xs=true->tr n ns=(ns,zf n f.xs) :: (zf n f.xs).es.flatMap fun e=>tr e.ino (ns++[e.name])
 not:∀ n ns,zk n f.xs=false->tr n ns = []
abbrev ki (p:List Lz×zo):List C:=[.str (qy p.1),.agg (J0 p.2)]
def zdv (tr:Int->List Lz->J3) (ns:List Lz) (es:List zS):J3:=es.flatMap fun e=>tr e.ino (ns++[e.name])
def Qz (tr:Int->List Lz->J3) (S:List (List Lz×List zS)):J3:=S.flatMap fun p=>zdv tr p.1 p.2
abbrev lvC (p:List Lz×List zS):List C:=[.sl 1 (zE p.1),.sl 2 (zJ p.2)]
def HR (S:List (List Lz×List zS)):List C:=(S.reverse.map lvC).flatten
theorem zoT (S:List (List Lz×List zS)):(HR S).length=S.length*2:=by
 unfold HR;rw[zM (k:=2) fun r hr=>by obtain ⟨p,_,rfl⟩:=WS.1 hr;rfl];simp
theorem zaG (p:List Lz×List zS) (S:List (List Lz×List zS)):HR (p :: S)=HR S++lvC p:=by
 unfold HR;simp
def V0 (p:List Lz×zo):Prop:=p.1.length<=1000000/\(Lib.join p.1 [47]).length<=1000000
structure Y3 (f:FsV) (tr:Int->List Lz->J3) (IT:List (List C)) (sf:Nat->Bool) (S:List (List Lz×List zS)) (k cap:Nat):Prop where
 rest:IT.drop k=(Qz tr S).map ki
 bound:∀ p∈Qz tr S,V0 p
 le:k<=IT.length
 go:∀ j,j<k->sf j=false
 pos:S.length<=k
 room:S.length<=cap
 roomM:cap<=9223372036854775807
 has:∀ p∈S,p.2.length<=3240/\∀ e∈p.2,zk e.ino f.xs=true
theorem Z9 (S:List (List Lz×List zS)):((HR S).all C.stayB)=true:=Xn fun r hr=>by
 obtain ⟨p,_,rfl⟩:=WS.1 hr;rfl
theorem Y3.pop {tr:Int->List Lz->J3} {IT:List (List C)} {sf:Nat->Bool} {S:List (List Lz×List zS)} {cap:Nat} (h:Y3 f tr IT sf ((ns,[]) :: S) k cap):Y3 f tr IT sf S k cap:=by
 have e:Qz tr ((ns,[]) :: S)=Qz tr S:=by simp[Qz,zdv]
 exact ⟨by rw[←e];exact h.rest,fun p hp=>h.bound p (by rw[e];exact hp),h.le,h.go,by have:=h.pos;rw[Wh]at this;omega,by have:=h.room;rw[Wh]at this;omega,h.roomM,fun p hp=>h.has p (Wn _ hp)⟩
theorem Y3.next {tr:Int->List Lz->J3} {IT:List (List C)} {sf:Nat->Bool} {S:List (List Lz×List zS)} {e:zS} {r:List zS} {cap:Nat} (h:Y3 f tr IT sf ((ns,e :: r) :: S) k cap) (ht:zbh f tr) (hf:zo8 f.xs) (h3:YX f) :
  ∃ y,y=zf e.ino f.xs/\y∈f.xs/\IT[k]?=some (ki (ns++[e.name],y))/\V0 (ns++[e.name],y)/\(sf k=false->(∀ c,S.length+2<=c->c<=9223372036854775807->Y3 f tr IT sf ((ns++[e.name],y.es) :: (ns,r) :: S) (k+1) c)/\(y.es = []->Y3 f tr IT sf ((ns,r) :: S) (k+1) cap)):=by
 have hh:zk e.ino f.xs=true:=(h.has (ns,e :: r) Wl).2 e Wl;obtain ⟨hm,hi⟩:=jB hh;have hu:=ht.has e.ino (ns++[e.name]) hh;have hrest:Qz tr ((ns,e :: r) :: S)=(ns++[e.name],zf e.ino f.xs) :: Qz tr ((ns++[e.name],(zf e.ino f.xs).es) :: (ns,r) :: S):=by
  simp only[Qz,zdv,As,hu,Oh,WI]
 refine ⟨_,rfl,hm,?_,h.bound _ (by rw[hrest];exact Wl),fun hs=>?_⟩
 ·have:=h.rest;rw[hrest]at this;have:=WA (·[0]?) this;simpa using this
 ·have hd:IT.drop (k+1)=(Qz tr ((ns++[e.name],(zf e.ino f.xs).es) :: (ns,r) :: S)).map ki:=by
   rw[←AB,h.rest,hrest];rfl
  have hb:∀ p∈Qz tr ((ns++[e.name],(zf e.ino f.xs).es) :: (ns,r) :: S),V0 p:=fun p hp=>h.bound p (by rw[hrest];exact Wn _ hp);have hkl:k+1<=IT.length:=by
   rcases Wr k IT.length with g | g
   ·exact g
   ·have:=h.rest;rw[AY g,hrest]at this;cases this
  have hgo:∀ j,j<k+1->sf j=false:=fun j hj=>by
   rcases Wr j k with g | g
   ·exact h.go j g
   ·rw[show j=k by omega];exact hs
  have hp:=h.pos;have hro:=h.room;have hrm:=h.roomM;rw[Wh]at hp hro;have h0:=h.has (ns,e :: r) Wl;have hr0:r.length<=3240/\∀ e'∈r,zk e'.ino f.xs=true:=⟨by have:=h0.1;simp at this;omega,fun e' he=>h0.2 e' (Wn _ he)⟩;refine ⟨fun c h1 h2=>⟨hd,hb,hkl,hgo,by simp;omega,by simp;omega,h2,fun p hp=>?_⟩,fun hne=>?_⟩
  ·rcases WK.1 hp with rfl | hp
   ·exact ⟨(hf.2 _ hm).2.1,fun e' he=>h3 _ hm e' he⟩
   ·rcases WK.1 hp with rfl | hp
    ·exact hr0
    ·exact h.has p (Wn _ hp)
  ·have hz:Qz tr ((ns++[e.name],(zf e.ino f.xs).es) :: (ns,r) :: S)=Qz tr ((ns,r) :: S):=by rw[hne];simp[Qz,zdv]
   rw[hz]at hd hb;exact ⟨hd,hb,hkl,hgo,by simp;omega,by simp;omega,hrm,fun p hp=>by
    rcases WK.1 hp with rfl | hp
    ·exact hr0
    ·exact h.has p (Wn _ hp)⟩
theorem zcY (f:FsV) (ino:Int) (ns:List Lz) (tr:Int->List Lz->J3) (ht:zbh f tr) (hf:zo8 f.xs) (hR:qc f.xs) (h3:YX f) (h2:∀ x∈f.xs,x.kind≠2->x.es = []) (hl:(tr ino ns).length<=100000000) (hb:∀ p∈tr ino ns,V0 p) :
  yJ Tryz.prog G0 226 [] [.row (fsC f),.row [.sc (.int .i64 ino)],.row [.sl 1 (zE ns)]] [] ((tr ino ns).map ki):=by
 have h40:=hf.1;refine foI (fun i=>if i=1000000+278 then [true] else if i=1 then [false,false,false,false,false,false,false,true] else if i=10 then [false,false,false,false,true] else []) Tryz.func226 ?_;dsimp only[Tryz.f226];intro l sf;push_cast;refine cl (jm f ino (by omega) hR) ?_;push_cast;cases hh:zk ino f.xs with
 | false =>
  have hn:=ht.not ino ns hh;push_cast;rw[hn];exact .inl ⟨rfl,fun j hj=>absurd hj (OJ _)⟩
 | true =>
  have hn:=ht.has ino ns hh;have q:V0 (ns,zf ino f.xs):=hb _ (by rw[hn];exact Wl);have h0:((tr ino ns).map ki)[0]?=some (ki (ns,zf ino f.xs)):=by rw[hn];rfl
  obtain ⟨hm,hino⟩:=jB hh;generalize zf ino f.xs=x at hn h0 hm hino;have hITl:((tr ino ns).map ki).length<=100000000:=by rw[We];exact hl
  generalize hIT:(tr ino ns).map ki=IT at h0 hITl;push_cast;refine cl (Qd ns (by have:=q.1;dsimp only at this;omega) (by have:=q.2;dsimp only at this;omega)) ?_;push_cast [h0];refine ⟨by push_cast [ze,zd,CLe,zg],fun j hj=>absurd hj (OJ _),br (fun hs=>?_) (fun hs=>?_)⟩
  ·push_cast;exact .inr ⟨A5 _,hs⟩
  ·push_cast;refine loop (fun p:List (List Lz×List zS)×Nat×Nat=>⟨[(0,.sc (.func (.yield l) #[] #[])),(1,.row (fsC f)),(7,.bs 1 0 2 p.1.length p.2.2)],[[.any,.any,.any,.any,.any,.any],HR p.1++List.replicate ((p.2.2-p.1.length)*2) .any],0,p.2.1⟩) (fun p=>Y3 f tr IT sf p.1 p.2.1 p.2.2) (fun p=>2*(IT.length-p.2.1)+p.1.length) ([(ns,x.es)],1,1) ?_ ?_ ?_
   ·have hdr:IT.drop 1=(Qz tr [(ns,x.es)]).map ki:=by
     rw[←hIT,hn];simp[Qz,zdv]
    show Y3 f tr IT sf [(ns,x.es)] 1 1;exact ⟨hdr,fun p hp=>hb p (by rw[hn];exact Wn _ (by simpa [Qz,zdv] using hp)),by have:=(Wd.1 h0).1;omega,fun j hj=>by rw[show j=0 by omega];exact hs,Wb _,Wb _,by omega,fun p hp=>by
     rw[W3]at hp;subst hp;exact ⟨(hf.2 x hm).2.1,fun e he=>h3 x hm e he⟩⟩
   ·have hl1:HR [(ns,x.es)] = [.sl 1 (zE ns),.sl 2 (zJ x.es)]:=rfl;exact wk (h5:=by push_cast [ze,zd,CLe,zg,hl1])
   ·rintro ⟨S,k,cap⟩ hS;dsimp only at hS ⊢;cases S with
    | nil =>
     push_cast;have hr:=hS.rest;have he:IT.length<=k:=by
      rcases Wr k IT.length with g | g
      ·have:=WA List.length hr;simp[Qz]at this;omega
      ·exact g
     exact .inl ⟨by have:=hS.le;omega,hS.go⟩
    | cons p S' =>
     obtain ⟨ns1,es1⟩:=p;have hL:=zoT S';have hd0:∀ X,(HR S'++X).drop (S'.length*2)=X:=fun X=>List.drop_left' hL;have hd1:∀ X,(HR S'++X).drop (S'.length*2+1)=X.drop 1:=fun X=>by rw[←AB,hd0]
     have hd2:∀ X,(HR S'++X).drop (S'.length*2+2)=X.drop 2:=fun X=>by rw[←AB,hd0]
     have ht0:∀ X,(HR S'++X).take (S'.length*2)=HR S':=fun X=>OI hL;have ht1:∀ X,(HR S'++X).take (S'.length*2+1)=HR S'++X.take 1:=fun X=>by
      rw[Ax,Wf (by omega),hL];congr 2;omega
     have hpos:((0:Int)<(S'.length:Int)+1)=True:=eq_true (by omega);have hroom:=hS.room;have hroomM:=hS.roomM;rw[Wh]at hroom;have hlc:(((S'.length:Int)+1-1)=(S'.length:Int)):=by omega
     push_cast [zaG,hlc,hpos]
     repeat refine an ?_
     generalize hpad:List.replicate ((cap-(S'.length+1))*2) C.any=pad;have hps:(pad.all C.stayB)=true:=by rw[←hpad];simp[OK,C.stayB]
     have hst1:((HR S'++(lvC (ns1,es1)++pad)).all C.stayB)=true:=by rw[O2,Z9,O2,hps];rfl
     have hpl:pad.length=(cap-(S'.length+1))*2:=by rw[←hpad];simp
     refine loop (fun p:List zS×Nat=>⟨[(0,.sc (.func (.yield l) #[] #[])),(1,.row (fsC f)),(7,.bs 1 0 2 (S'.length+1) cap),(8,.ptr 1 (S'.length*2))],[[.any,.any,.any,.any,.any,.any],HR S'++([.sl 1 (zE ns1),.sl 2 (zJ p.1)]++pad)],0,p.2⟩) (fun p=>Y3 f tr IT sf ((ns1,p.1) :: S') p.2 cap/\2*(IT.length-p.2)<=2*(IT.length-k)) (fun p=>p.1.length) (es1,k) ⟨hS,Wb _⟩ ?_ ?_
     ·exact JW.mk [] rfl rfl (Wc _) rfl (by push_cast [ze,zd,CLe,zg]) (by push_cast [ze,zd,CLe,zg,WI];exact zV hst1)
     ·rintro ⟨es,k1⟩ ⟨hT,hkk⟩;dsimp only at hT hkk ⊢;cases es with
      | nil =>
       push_cast [hd0,hd1,hd2,ht0,ht1,hlc];refine ⟨by omega,by omega,⟨by omega,by omega⟩,(S',k1,cap),hT.pop,by dsimp only;omega,JW.mk [] rfl rfl (Wc _) rfl (by push_cast [ze,zd,CLe,zg]) ?_⟩;push_cast [ze,zd,CLe,zg];exact ze7 (zV (Z9 S')) (XB (by simp[hpl];omega))
      | cons e r =>
       obtain ⟨y,hy,hym,hk1,hbd,hnext⟩:=hT.next ht hf h3;have hrl:((0:Int)<(r.length:Int)+1)=True:=eq_true (by omega);have hlr:(zJ r).length=r.length:=We ..;have hhe:zk e.ino f.xs=true:=(hT.has (ns1,e :: r) Wl).2 e Wl;have hgy:zf e.ino f.xs=y:=hy.symm;have hb1:ns1.length+1<=1000000:=by have:=hbd.1;simpa using this
       have hb2:(Lib.join (ns1++[e.name]) [47]).length<=1000000:=hbd.2;have hst2:(zE ns1).length=ns1.length:=We ..;push_cast [hd0,hd1,hd2,ht0,ht1,hlc,hlr,hrl,hst2,WI,Of]
       repeat refine an ?_
       refine cl (jm f e.ino (by omega) hR) ?_;push_cast [hgy,hhe];refine cl (Qd (ns1++[e.name]) (by simp;omega) (by omega)) ?_;push_cast [hk1];refine ⟨by push_cast [ze,zd,CLe,zg],hT.go,br (fun hs1=>?_) (fun hs1=>?_)⟩
       ·push_cast;exact .inr ⟨A5 _,hs1⟩
       ·obtain ⟨w1,w2⟩:=hnext hs1;by_cases k2:y.kind=2
        ·have hSk:=hT.pos;have hkl:=hT.le;rw[Wh]at hSk;have hc1:(HR S'++C.sl 1 (zE ns1) :: C.sl 2 (List.map Nc r) :: pad).length=cap*2:=by
          rw[Wi,hL,Wh,Wh,hpl];omega
         have hc2:(HR S'++C.sl 1 (zE ns1) :: C.sl 2 (List.map Nc r) :: pad).take ((S'.length+1)*2)=HR S'++[C.sl 1 (zE ns1),C.sl 2 (List.map Nc r)]:=by
          rw[Ax,Wf (by omega),hL,show (S'.length+1)*2-S'.length*2=2 by omega];rfl
         push_cast [k2];refine zsr (HR S'++[C.sl 1 (zE ns1),C.sl 2 (List.map Nc r)]++[C.sl 1 (zE (ns1++[e.name])),C.sl 2 (zJ y.es)]) rfl rfl (by decide) rfl (by decide) (Wc _) hc1 hroom hroomM (by omega) (by omega) (by rw[hc2];exact zG (by rw[O2,O2,Z9];rfl)) (fun c' g1 g2=>?_);have hw:=w1 c' (by omega) g2;have hwl:=hw.le;push_cast [k2];refine ⟨((ns1++[e.name],y.es) :: (ns1,r) :: S',k1+1,c'),hw,by simp only[Wh];omega,JW.mk [] rfl rfl (Wc _) rfl (by push_cast [ze,zd,CLe,zg]) ?_⟩;push_cast [ze,zd,CLe,zg,zaG,WI];exact zV (by rw[O2,Z9];simp[OK,C.stayB])
        ·push_cast [k2];have hz:=w2 (h2 y hym k2);have hle:=hz.le;refine ⟨(r,k1+1),⟨hz,by dsimp only;omega⟩,by dsimp only;simp,JW.mk [] rfl rfl (Wc _) rfl (by push_cast [ze,zd,CLe,zg]) ?_⟩;push_cast [ze,zd,CLe,zg,WI];exact zV (by rw[O2,Z9,A1,A1,hps];rfl)
end
variable {tr:Int->List Lz->J3}
section
open CA CB
open Go.RowKit
structure zfV (f:FsV) (tr:Int->List Lz->J3):Prop where
 tree:zbh f tr
 few:zo8 f.xs
 rise:qc f.xs
 third:YX f
 leaf:∀ x∈f.xs,x.kind≠2->x.es = []
structure uF (tr:Int->List Lz->J3) (ino:Int) (ns:List Lz):Prop where
 len:(tr ino ns).length<=100000000
 bound:∀ p∈tr ino ns,V0 p
abbrev zd0 (l:J3):List (List C):=l.map ki
theorem zjB {l:J3} {it:List C} (h:(zd0 l)[k]?=some it):∃ p,l[k]?=some p/\it=ki p:=by
 rw[Ws]at h;cases hq:l[k]? with
 | none=>rw[hq]at h;cases h
 | some x=>rw[hq]at h;cases h;exact ⟨x,rfl,rfl⟩
theorem zm1 {ino:Int} (hw:zfV f tr) (hs:uF tr ino ns):yJ Tryz.prog G0 226 [] [.row (fsC f),.row [.sc (.int .i64 ino)],.row [.sl 1 (zE ns)]] [] (zd0 (tr ino ns)):=
 zcY f ino ns tr hw.tree hw.few hw.rise hw.third hw.leaf hs.len hs.bound
theorem zks (f:FsV) (ino:Int) (ns:List Lz):Fun Tryz.prog G0 183 [.agg (fsC f),.sc (.int .i64 ino),.sl 1 (zE ns)] (.clo (.func 226) [] [.row (fsC f),.row [.sc (.int .i64 ino)],.row [.sl 1 (zE ns)]]) 0:=by
 refine fon Tryz.func183 ?_;dsimp only[Tryz.f183];push_cast;exact dn
theorem zo0 (f:FsV):Fun Tryz.prog G0 149 [.agg (fsC f)] (.clo (.func 226) [] [.row (fsC f),.row [.sc (.int .i64 1)],.row [.sl 1 (zE [])]]) 0:=by
 refine fon Tryz.func149 ?_;dsimp only[Tryz.f149];push_cast;refine call (Fun.less (zks f 1 []) (by push_cast [ze,zd,CLe,zg])) ?_;push_cast;exact dn
def Zh (n:Int) (l:J3):List Lz:=(l.filter fun p=>decide (p.2.ino=n)).map fun p=>qy p.1
def k9 (n:Int) (l:J3):Option Lz:=(l.find? fun p=>decide (p.2.ino=n)&&decide (p.2.kind=2)).map fun p=>qy p.1
theorem vM (f:FsV) (n:Int) (tr:Int->List Lz->J3) (hw:zfV f tr) (hs:uF tr 1 []) :
  Fun Tryz.prog G0 102 [.agg (fsC f),.sc (.int .i64 n)] (.tup [.str ((k9 n (tr 1 [])).getD []),.sc (.bool (k9 n (tr 1 [])).isSome)]) 0:=by
 refine fon Tryz.func102 ?_;dsimp only[Tryz.f102];push_cast;refine cl (zo0 f) ?_;push_cast;have hl:=hs.len;have hit:=zm1 hw hs;generalize tr 1 []=l at hit hl;refine range (zd0 l) (fun k=>match l[k]? with | some p=>decide (p.2.ino=n)&&decide (p.2.kind=2) | none=>false) 4 (fun k=>⟨[],[[.any,.any,.any,.any],[.sc (.int .i64 n)],[.any],[.any]],0,0⟩) hit (by push_cast) (by push_cast) (by push_cast) (Wc _) (by push_cast) (fun it h=>?_) (fun k _=>rfl) ?_ (fun k it hk hsf=>?_) (fun hsf=>?_)
 ·obtain ⟨x,_,rfl⟩:=WS.1 h;rfl
 ·exact wk
 ·obtain ⟨x,hx2,rfl⟩:=zjB hk;have hfirst:(decide (x.2.ino=n)&&decide (x.2.kind=2))=true->k9 n l=some (qy x.1):=fun hb=>by
   obtain ⟨hkl,hxe⟩:=Wd.1 hx2;unfold k9;rw[Ba (b:=x) |>.2 ⟨hb,k,hkl,hxe,fun j hj=>?_⟩]
   ·rfl
   ·have:=hsf j hj;rw[Wa (by omega)]at this;simp only[this];rfl
  by_cases c1:x.2.ino=n
  ·by_cases c2:x.2.kind=2
   ·have hd:=hfirst (by simp[c1,c2]);push_cast [c1,c2];refine ⟨by rw[hx2];simp[c1,c2],⟨[],[[.any,.any,.any,.any],[.sc (.int .i64 n)],[.str (qy x.1)],[.sc (.bool true)]],0,0⟩,rfl,wk,?_⟩;push_cast [hd];exact dn (by push_cast [ze,zd,CLe,zg,hd,WO,OL])
   ·push_cast [c1,c2];refine ⟨by rw[hx2];simp[c2],wk⟩
  ·push_cast [c1];refine ⟨by rw[hx2];simp[c1],wk⟩
 ·have hnone:k9 n l=none:=by
   unfold k9;rw[Option.map_eq_none_iff,Be];intro x hx;obtain ⟨k,hk,rfl⟩:=WH hx;have:=hsf k (by simpa using hk);rw[Wa hk]at this;simpa only[Bool.not_eq_true] using this
  push_cast [hnone];exact dn (by push_cast [ze,zd,CLe,zg,Oe,Am])
end
section
inductive Dep (xs:List zo):Nat->Int->Prop
 | root:Dep xs 0 1
 | step {k:Nat} {n:Int} {e:zS}:Dep xs k n->zk n xs=true->e∈(zf n xs).es->Dep xs (k+1) e.ino
def okM (f:FsV):Prop:=zo8 f.xs/\JD f=0
theorem okV.m (h:okV f):okM f:=⟨⟨by have:=h.1.1;omega,fun x hx=>by obtain ⟨a,b,c⟩:=h.1.2 x hx;exact ⟨a,by omega,c⟩⟩,h.2⟩
theorem qU (h:okM f):zo8 f.xs/\JB f/\Y4 f/\YX f/\Xa f/\Q9 f/\HJ f:=by
 obtain ⟨h0,h⟩:=h;unfold JD at h;refine ⟨h0,?_⟩;split at h
 ·split at h
  ·split at h
   ·split at h
    ·split at h
     ·split at h
      ·exact ⟨by assumption,by assumption,by assumption,by assumption,by assumption,by assumption⟩
      ·cases h
     ·cases h
    ·cases h
   ·cases h
  ·cases h
 ·cases h
theorem Nl {es:List zS}:∀ {S:List Int} {n:Int},n∈HF S es↔n∈S∨∃ e∈es,e.ino=n:=by
 induction es with
 | nil=>intro S n;simp[HF]
 | cons e r ih =>
  intro S n;show n∈HF (Y1 S e.ino) r↔_;rw[ih,GP];constructor
  ·rintro ((h | h) | ⟨e',he,h⟩)
   ·exact .inl h
   ·exact .inr ⟨e,Wl,h.symm⟩
   ·exact .inr ⟨e',Wn _ he,h⟩
  ·rintro (h | ⟨e',he,h⟩)
   ·exact .inl (.inl h)
   ·rcases WK.1 he with rfl | he
    ·exact .inl (.inr h.symm)
    ·exact .inr ⟨e',he,h⟩
theorem yp {es:List zS}:∀ {S:List Int},YW xs S->(∀ e∈es,zk e.ino xs=true)->YW xs (HF S es):=by
 induction es with
 | nil=>intro S h _;exact h
 | cons e r ih=>intro S h he;exact ih (h.one (he e Wl)) fun e' h'=>he e' (Wn _ h')
theorem G9 {xs:List zo} (h3:∀ x∈xs,∀ e∈x.es,zk e.ino xs=true):∀ (m i:Nat) (S:List Int),YW xs S->(∀ n∈S,∃ k,Dep xs k n)->YW xs (Zs xs m i S)/\∀ n∈Zs xs m i S,∃ k,Dep xs k n
 | 0,i,S,h,hd=>by unfold Zs;exact ⟨h,hd⟩
 | m+1,i,S,h,hd=>by
  unfold Zs;split
  ·rename_i n hn;have hmem:=Wg hn;have hh:=h.has n hmem;obtain ⟨hm,_⟩:=jB hh;obtain ⟨k,hk⟩:=hd n hmem;refine G9 h3 m (i+1) _ (yp h fun e he=>h3 _ hm e he) fun n' hn'=>?_;rcases Nl.1 hn' with h' | ⟨e,he,rfl⟩
   ·exact hd n' h'
   ·exact ⟨k+1,.step hk hh he⟩
  ·exact ⟨h,hd⟩
theorem zfI {S T:List Int} (hS:S.Nodup) (hs:∀ n∈S,n∈T) (hl:T.length<=S.length):∀ n∈T,n∈S:=by
 intro n hn;by_cases h:n∈S
 ·exact h
 ·exfalso
  have:=U0 (S:=n :: S) (T:=T) (OV.2 ⟨h,hS⟩) fun m hm=>by
   rcases WK.1 hm with rfl | hm
   ·exact hn
   ·exact hs m hm
  rw[Wh]at this;omega
theorem v6 (h:okM f) {n:Int} (hn:zk n f.xs=true):∃ k,Dep f.xs k n:=by
 obtain ⟨_,h1,_,h3,_,h5,_⟩:=qU h;have hroot:YW f.xs [1]:=⟨by simp,fun n hn=>by simp at hn;subst hn;exact h1.2.2.2.2.2.2.2.1⟩;obtain ⟨g1,g2⟩:=G9 h3 (f.xs.length+1) 0 [1] hroot fun n hn=>by simp at hn;subst hn;exact ⟨0,.root⟩
 have hS:=zfI (T:=f.xs.map (·.ino)) g1.nodup (fun m hm=>G8.1 (g1.has m hm)) (by rw[We];exact Nat.le_of_eq h5.symm) n (G8.1 hn);exact g2 n hS
theorem ZT {e:zS} (hh:zk n xs=true) (he:e∈(zf n xs).es):(e.ino,n)∈qn xs:=by
 obtain ⟨hm,hi⟩:=jB hh;unfold qn;exact Ay.2 ⟨_,hm,WS.2 ⟨e,he,by rw[hi]⟩⟩
theorem zmZ (h:(n,p)∈l):1<=ZA n l:=by
 unfold ZA;exact WB.2 (List.ne_nil_of_mem (Oy.2 ⟨h,by simp⟩))
theorem vl {q:Int} (hp:(n,p)∈l) (hq:(n,q)∈l) (h:ZA n l=1):p=q:=by
 unfold ZA at h;obtain ⟨x,hx⟩:=BF.1 h;have h1:(n,p)∈l.filter fun p=>p.1==n:=Oy.2 ⟨hp,by simp⟩;have h2:(n,q)∈l.filter fun p=>p.1==n:=Oy.2 ⟨hq,by simp⟩;rw[hx]at h1 h2;simp only[W3]at h1 h2;exact WA Prod.snd (h1.trans h2.symm)
theorem Hl (h:okM f) {n:Int} (hh:zk n f.xs=true) {e:zS} (he:e∈(zf n f.xs).es):(zf n f.xs).kind=2:=by
 obtain ⟨_,_,h2,_⟩:=qU h;obtain ⟨hm,_⟩:=jB hh;by_cases hk:(zf n f.xs).kind=2
 ·exact hk
 ·have:=((h2 _ hm).2.1 hk).1;rw[this]at he;cases he
theorem jb (h:okM f) {n:Int} (hh:zk n f.xs=true) {e:zS} (he:e∈(zf n f.xs).es):e.ino≠1:=fun h1=>by
 obtain ⟨_,hf,_,_,h4,_⟩:=qU h;obtain ⟨hm,hi⟩:=jB hf.2.2.2.2.2.2.2.1;have hq:=(h4 _ hm).2;rw[if_pos hi,hi]at hq;have:=zmZ (ZT hh he);rw[h1]at this;omega
theorem VY {f:FsV} (h:okM f):∀ (k k':Nat) (n:Int),Dep f.xs k n->Dep f.xs k' n->zk n f.xs=true->(zf n f.xs).kind=2->k=k'
 | 0,0,_,_,_,_,_=>rfl
 | 0,k'+1,_,h1,h2,hh,hk=>by
  cases h1;generalize hn:(1:Int)=n at h2;cases h2 with
  | step a b c=>exact absurd hn.symm (jb h b c)
 | k+1,0,_,h1,h2,hh,hk=>by
  cases h2;generalize hn:(1:Int)=n at h1;cases h1 with
  | step a b c=>exact absurd hn.symm (jb h b c)
 | k+1,k'+1,n,h1,h2,hh,hk=>by
  obtain ⟨_,hf,_,_,h4,_⟩:=qU h;cases h1 with
  | @step _ p e a b c =>
   generalize hn:e.ino=n at h2 hh hk;cases h2 with
   | @step _ p' e' a' b' c' =>
    have hp:=ZT b c;have hp':=ZT b' c';rw[hn]at hp;obtain ⟨hm,hi⟩:=jB hh;have hq:=(h4 _ hm).2;rw[hi]at hq;have hne:e'.ino≠1:=jb h b' c';rw[if_neg hne]at hq;have:=vl hp hp' (hq.2 hk).1;subst this;rw[VY h k k' p a a' b (Hl h b c)]
end
section
theorem Qo (n:Int):∀ xs:List zo,ZA n (qn xs)=J5 n xs
 | []=>rfl
 | x :: r=>by
  have ih:=Qo n r;unfold J5 Mj at ih ⊢;unfold qn at ih ⊢;rw[As,Wo,OY,←ih];unfold ZA Yc;rw[OR,Wi];congr 1
  induction x.es with
  | nil=>rfl
  | cons e es ie =>
   unfold VU at ie ⊢;rw[Wo,O5,O5];by_cases h:e.ino=n
   ·simp only[h,beq_self_eq_true,if_true,decide_true,Wh,ie]
   ·simp only[show (e.ino==n)=false from O1.2 h,Wk h,W0,Oi,ie]
theorem Uq (h:JD f=0):JB f/\Y4 f/\YX f/\Xa f/\Q9 f/\HJ f:=by
 unfold JD at h;split at h
 ·split at h
  ·split at h
   ·split at h
    ·split at h
     ·split at h
      ·exact ⟨by assumption,by assumption,by assumption,by assumption,by assumption,by assumption⟩
      ·cases h
     ·cases h
    ·cases h
   ·cases h
  ·cases h
 ·cases h
theorem xq {es:List zS} (h:Xl es):JE es:=by
 have hadj:∀ i (h1:i+1<es.length),Op.bytesLess es[i].name es[i+1].name=true:=fun i h1=>(h (i+1) h1).2.2 (by omega);have key:∀ (d i:Nat) (h1:i+d+1<es.length),Op.bytesLess (es[i]'(by omega)).name es[i+d+1].name=true:=by
  intro d
  induction d with
  | zero=>intro i h1;exact hadj i h1
  | succ d ih=>intro i h1;exact Nx (ih i (by omega)) (hadj (i+d+1) (by omega))
 refine WV.2 fun i j hi hj hij=>?_;have:=key (j-i-1) i (by omega);have e:i+(j-i-1)+1=j:=by omega
 simp only[e]at this;exact this
theorem ZF (h:JD f=0):FsI f:=by
 obtain ⟨h1,h2,h3,h4,h5,h6⟩:=Uq h;obtain ⟨a1,a2,a3,a4,a5,a6,a7,a8,a9⟩:=h1;refine ⟨a7,a6,fun x hx=>(h2 x hx).1,fun x hx=>?_,fun x hx hk=>((h2 x hx).2.1 hk).1,h3,fun x hx=>?_,a8,a9,?_⟩
 ·by_cases hk:x.kind=2
  ·exact xq ((h2 x hx).2.2.1 hk).2
  ·rw[((h2 x hx).2.1 hk).1];exact List.Pairwise.nil
 ·rw[(h4 x hx).1,Qo]
 ·obtain ⟨b1,b2⟩:=jB a8;have q:=(h4 _ b1).2;rw[b2,if_pos rfl,Qo]at q;exact q.1
theorem ztg (h:okW w):UE w:=by
 obtain ⟨h1,h2,h3,h4,h5⟩:=h.2;exact ⟨ZF h1,h4.1,h2,fun x hx=>⟨(h3 x hx).1,(h3 x hx).2.2.1⟩⟩
theorem zhC (h:okW w):yK 40 w:=by
 obtain ⟨⟨g1,g2,g3,g4⟩,h1,_⟩:=h;obtain ⟨a1,a2,a3,a4,a5,_⟩:=(Uq h1).1;exact ⟨g2.1,fun x hx=>by obtain ⟨q1,q2,q3⟩:=g2.2 x hx;exact ⟨q2,q1,q3⟩,g4,g1,g3.1,fun x hx=>by obtain ⟨q1,q2,q3⟩:=g3.2 x hx;exact ⟨q2,q1,q3⟩,by omega,by omega⟩
theorem yK.s (h:yK N w) (hi:UE w) (hN:N<=10000):zl4 w:=by
 have hr:=uj hi.fs;have hn:=h.next;exact ⟨⟨by have:=h.len;omega,fun x hx=>by obtain ⟨q1,q2,q3⟩:=h.node x hx;exact ⟨by omega,by omega,fun e he=>by have:=q3 e he;omega⟩⟩,⟨by omega,by omega⟩,by have:=h.klen;omega,by have:=h.plen;omega⟩
structure OpS (o:OpV):Prop where
 a:o.a.length<=1000
 b:o.b.length<=1000
 d:o.d.length<=5000
structure Ui (N:Nat) (d:zW):Prop where
 wi:UE d.w
 wb:yK (40+N) d.w
 ops:d.ops.length<=N
 diags:d.diags.length<=N
 slot:0<=d.slot/\d.slot<=1073741824+N
theorem Ui.s (h:Ui N d) (hN:N<=9000):zbA d:=
 ⟨h.wi,h.wb.s h.wi (by omega),by have:=h.ops;omega,by have:=h.diags;omega,h.slot.1,by have:=h.slot.2;omega⟩
theorem Ui.up (h:Ui N d):Ui (N+1) d:=⟨h.wi,h.wb.up,by have:=h.ops;omega,by have:=h.diags;omega,h.slot.1,by have:=h.slot.2;omega⟩
theorem yj {o:OpV} (h:(Qa d o).2≠0):(Qa d o).1=d:=by
 unfold Qa at h ⊢;split
 ·rfl
 ·split
  ·rfl
  ·rename_i h1 h2;rw[if_neg h1,if_neg h2]at h;exact absurd rfl h
theorem zrw (h:Ui N d) {o:OpV} (ho:o.d.length<=5000):Ui (N+1) (Qa d o).1:=by
 by_cases hz:(Qa d o).2=0
 case neg=>rw[yj hz];exact h.up
 unfold Qa at hz ⊢;split at hz
 ·exact absurd hz (show ¬(12:Int)=0 by decide)
 rename_i hk;rw[if_neg hk];split at hz
 ·rename_i hd;exact absurd hz hd
 rename_i hd;rw[if_neg hd];have hs:=h.slot;have hk7:(Zl d o).kind<=7:=by show o.kind<=7;omega
 refine ⟨zsO h.wi _ hk7,doB h.wi h.wb _ ho hk7,by simp;exact h.ops,by have:=h.diags;simp only;omega,?_⟩;simp only;unfold Zl;simp only;split<;>split<;>omega
end
section
theorem M2 {f:FsV} (h:okM f):∀ (k:Nat) (n:Int),Dep f.xs k n->zk n f.xs=true->(zf n f.xs).kind=2->∃ L:List Int,L.length=k+1/\L.Nodup/\(∀ m∈L,zk m f.xs=true)/\∀ m∈L,(zf m f.xs).kind=2/\∃ j,j<=k/\Dep f.xs j m
 | 0,n,hd,hh,hk=>⟨[n],rfl,by simp,fun m hm=>by simp at hm;subst hm;exact hh,fun m hm=>by simp at hm;subst hm;exact ⟨hk,0,Wb _,hd⟩⟩
 | k+1,_,hd,hh,hk=>by
  generalize hn:k+1=k1 at hd;cases hd with
  | root=>cases hn
  | @step k0 p e a b c =>
   obtain rfl:k=k0:=by omega
   obtain ⟨L,l1,l2,l3,l4⟩:=M2 h k p a b (Hl h b c);refine ⟨e.ino :: L,by simp[l1],OV.2 ⟨fun hm=>?_,l2⟩,fun m hm=>?_,fun m hm=>?_⟩
   ·obtain ⟨_,j,hj,hd⟩:=l4 _ hm;have:=VY h _ _ _ hd (.step a b c) hh hk;omega
   ·rcases WK.1 hm with rfl | hm
    ·exact hh
    ·exact l3 m hm
   ·rcases WK.1 hm with rfl | hm
    ·exact ⟨hk,k+1,Wb _,.step a b c⟩
    ·obtain ⟨q1,j,q2,q3⟩:=l4 m hm;exact ⟨q1,j,by omega,q3⟩
theorem MT (h:okM f) {k:Nat} {n:Int} (hd:Dep f.xs k n) (hh:zk n f.xs=true) (hk:(zf n f.xs).kind=2):k<f.xs.length:=by
 obtain ⟨L,l1,l2,l3,_⟩:=M2 h k n hd hh hk;have:=Vb l2 l3;omega
def jj (xs:List zo):Nat->Int->List Lz->J3
 | 0,_,_=>[]
 | m+1,n,ns=>if zk n xs then (ns,zf n xs) :: (zf n xs).es.flatMap (fun e=>jj xs m e.ino (ns++[e.name])) else []
theorem Q7 {α β:Type} {l:List α} {g g':α->List β} (h:∀ a∈l,g a=g' a):l.flatMap g=l.flatMap g':=by
 induction l with
 | nil=>rfl
 | cons a r ih=>rw[As,As,h a Wl,ih fun b hb=>h b (Wn _ hb)]
theorem MG {f:FsV} (h:okM f):∀ (m m' k:Nat) (n:Int) (ns:List Lz),Dep f.xs k n->k<=f.xs.length->f.xs.length+1<=m+k->f.xs.length+1<=m'+k->jj f.xs m n ns=jj f.xs m' n ns
 | 0,m',k,n,ns,hd,hk,h1,h2=>by omega
 | m+1,0,k,n,ns,hd,hk,h1,h2=>by omega
 | m+1,m'+1,k,n,ns,hd,hk,h1,h2=>by
  unfold jj;split
  ·rename_i hh;congr 1;refine Q7 fun e he=>?_;have hdir:=Hl h hh he;have hlt:=MT h hd hh hdir;exact MG h m m' (k+1) e.ino _ (.step hd hh he) (by omega) (by omega) (by omega)
  ·rfl
abbrev trV (xs:List zo):Int->List Lz->J3:=jj xs (xs.length+1)
theorem zl1 (h:okM f) {n:Int} (hh:zk n f.xs=true):∃ k,k<=f.xs.length/\Dep f.xs k n:=by
 obtain ⟨k,hd⟩:=v6 h hh;refine ⟨k,?_,hd⟩;cases hd with
 | root=>exact Wc _
 | step a b c=>exact MT h a b (Hl h b c)
theorem zok (h:okM f):zbh f (trV f.xs):=⟨fun n ns hh=>by
 obtain ⟨k,hk,hd⟩:=zl1 h hh;show jj f.xs (f.xs.length+1) n ns=_;rw[jj,if_pos hh];congr 1;refine Q7 fun e he=>?_;have hlt:=MT h hd hh (Hl h hh he);exact MG h _ _ (k+1) e.ino _ (.step hd hh he) (by omega) (by omega) (by omega),fun n ns hh=>by
 show jj f.xs (f.xs.length+1) n ns=_;rw[jj,if_neg (by rw[hh];decide)]⟩
theorem zmB (h:okM f):zfV f (trV f.xs):=by
 obtain ⟨p0,p1,p2,p3,_⟩:=qU h;exact ⟨zok h,p0,p1.2.2.2.2.2.2.1,p3,fun x hx hk=>((p2 x hx).2.1 hk).1⟩
end
section
theorem QO (ns:List Lz) (x:Lz) (hne:∀ y∈ns,y≠[]):qy (ns++[x])=Hb (qy ns) x:=by
 have hj:=M5 (ns++[x]) ns.length x (by simp);rw[Wf (by simp),OI rfl]at hj;unfold qy;rw[if_neg (by simp),hj];by_cases h:ns = []
 ·subst h;rfl
 ·have hl:ns.length≠0:=fun h0=>h (WP h0);rw[if_neg hl,if_neg h];have hne47:(47 :: Lib.join ns [47])≠[47]:=fun he=>by
   have h1:Lib.join ns [47] = []:=(List.cons.inj he).2;have h2:=QX ns h;rw[h1]at h2;cases ns with
   | nil=>exact h rfl
   | cons y r =>
    have:=WB.2 (hne y Wl);simp at h2;omega
  unfold Hb;rw[if_neg hne47];simp
end
section
inductive Anc (xs:List zo) (n:Int):Nat->Int->Prop
 | same:Anc xs n 0 n
 | step {j:Nat} {p:Int} {e:zS}:Anc xs n j p->zk p xs=true->e∈(zf p xs).es->Anc xs n (j+1) e.ino
theorem Anc.dep (hd:Dep xs k n):∀ {j:Nat} {d:Int},Anc xs n j d->Dep xs (k+j) d
 | _,_,.same=>hd
 | _,_,.step a b c=>.step (a.dep hd) b c
theorem Anc.up {e:zS} (hh:zk n xs=true) (he:e∈(zf n xs).es):∀ {j:Nat} {d:Int},Anc xs e.ino j d->Anc xs n (j+1) d
 | _,_,.same=>.step .same hh he
 | _,_,.step a b c=>.step (a.up hh he) b c
theorem XF {xs:List zo}:∀ (m:Nat) (n:Int) (ns:List Lz),∀ p∈jj xs m n ns,∃ j,Anc xs n j p.2.ino/\zk p.2.ino xs=true/\zf p.2.ino xs=p.2
 | 0,n,ns,p,hp=>by cases hp
 | m+1,n,ns,p,hp=>by
  unfold jj at hp;split at hp
  ·rename_i hh;obtain ⟨_,hi⟩:=jB hh;rcases WK.1 hp with rfl | hp
   ·exact ⟨0,by rw[hi];exact .same,by rw[hi];exact hh,by rw[hi]⟩
   ·obtain ⟨e,he,hp⟩:=Ay.1 hp;obtain ⟨j,q1,q2⟩:=XF m _ _ p hp;exact ⟨j+1,q1.up hh he,q2⟩
  ·cases hp
theorem zaq {f:FsV} (h:okM f) {a b:Int}:∀ (j:Nat) (d:Int),Anc f.xs a j d->Anc f.xs b j d->zk d f.xs=true->(zf d f.xs).kind=2->a=b/\zk a f.xs=true/\(zf a f.xs).kind=2
 | 0,d,h1,h2,hh,hk=>by
  cases h1;cases h2;exact ⟨rfl,hh,hk⟩
 | j+1,d,h1,h2,hh,hk=>by
  obtain ⟨_,_,_,_,h4,_⟩:=qU h;cases h1 with
  | @step _ p e x y z =>
   generalize hn:e.ino=d at h2 hh hk;cases h2 with
   | @step _ p' e' x' y' z' =>
    have hp:=ZT y z;have hp':=ZT y' z';rw[hn]at hp;obtain ⟨hm,hi⟩:=jB hh;have hq:=(h4 _ hm).2;rw[hi,if_neg (jb h y' z')]at hq;have:=vl hp hp' (hq.2 hk).1;subst this;exact zaq h j p x x' y (Hl h y z)
theorem znM {e e':zS} (hh:zk n xs=true) (hs:[e,e'].Sublist (zf n xs).es) (hi:e.ino=e'.ino):2<=ZA e.ino (qn xs):=by
 obtain ⟨hm,hino⟩:=jB hh;have h1:([e,e'].map fun e=>(e.ino,(zf n xs).ino)).Sublist (VU (zf n xs) (zf n xs).es):=hs.map _;obtain ⟨i,hi',hx⟩:=WH hm;have h2:(VU (zf n xs) (zf n xs).es).Sublist (qn xs):=by
  obtain ⟨s,t,hst⟩:=List.append_of_mem hm;unfold qn
  conv=>rhs;rw[hst]
  rw[Bm,As];exact (List.sublist_append_left _ _).trans (List.sublist_append_right _ _)
 have h3:=((h1.trans h2).filter fun p=>p.1==e.ino).length_le;unfold ZA;simpa [hi] using h3
abbrev Xb (l:J3):List Int:=(l.filter fun p=>decide (p.2.kind=2)).map fun p=>p.2.ino
theorem UZ {l:J3} {d:Int} (h:d∈Xb l):∃ p∈l,p.2.kind=2/\p.2.ino=d:=by
 obtain ⟨p,hp,rfl⟩:=WS.1 h;obtain ⟨h1,h2⟩:=Oy.1 hp;exact ⟨p,h1,WR h2,rfl⟩
theorem Xk {f:FsV} (h:okM f):∀ (m:Nat) (n:Int) (ns:List Lz),zk n f.xs=true->(Xb (jj f.xs m n ns)).Nodup
 | 0,n,ns,_=>An
 | m+1,n,ns,hh=>by
  obtain ⟨k,hd⟩:=v6 h hh;obtain ⟨_,_,_,h3,h4,_⟩:=qU h;obtain ⟨hm,hi⟩:=jB hh;have key:∀ L:List zS,L.Sublist (zf n f.xs).es->(Xb (L.flatMap fun e=>jj f.xs m e.ino (ns++[e.name]))).Nodup:=by
   intro L
   induction L with
   | nil=>intro _;exact An
   | cons e r ih =>
    intro hs;have he:e∈(zf n f.xs).es:=hs.subset Wl;have hr:r.Sublist (zf n f.xs).es:=(List.sublist_cons_self e r).trans hs;have hap:Xb ((e :: r).flatMap fun e=>jj f.xs m e.ino (ns++[e.name]))=Xb (jj f.xs m e.ino (ns++[e.name]))++Xb (r.flatMap fun e=>jj f.xs m e.ino (ns++[e.name])):=by
     rw[As];unfold Xb;rw[OR,WY]
    rw[hap,Ai];refine ⟨Xk h m e.ino _ (h3 _ hm e he),ih hr,fun d hd1 d' hd2 hdd=>?_⟩;subst hdd;obtain ⟨p,p1,p2,rfl⟩:=UZ hd1;obtain ⟨p',p1',p2',p3'⟩:=UZ hd2;obtain ⟨e',he',p1'⟩:=Ay.1 p1';obtain ⟨j,a1,a2,a3⟩:=XF m _ _ p p1;obtain ⟨j',b1,b2,b3⟩:=XF m _ _ p' p1';rw[p3']at b1;have hk:(zf p.2.ino f.xs).kind=2:=by rw[a3];exact p2
    have hdep:=VY h _ _ _ (a1.dep (.step hd hh he)) (b1.dep (.step hd hh (hr.subset he'))) a2 hk;obtain rfl:j=j':=by omega
    obtain ⟨q1,q2,q3⟩:=zaq h j _ a1 b1 a2 hk;have hs2:[e,e'].Sublist (zf n f.xs).es:=(List.Sublist.cons_cons e (List.singleton_sublist.2 he')).trans hs;have h2:=znM hh hs2 q1;obtain ⟨hm2,hi2⟩:=jB q2;have hq:=(h4 _ hm2).2;rw[hi2,if_neg (jb h hh he)]at hq;have:=(hq.2 q3).1;omega
  unfold jj;rw[if_pos hh];by_cases hk:(zf n f.xs).kind=2
  ·have hc:Xb ((ns,zf n f.xs) :: (zf n f.xs).es.flatMap fun e=>jj f.xs m e.ino (ns++[e.name]))=n :: Xb ((zf n f.xs).es.flatMap fun e=>jj f.xs m e.ino (ns++[e.name])):=by
    unfold Xb;rw[Om (by simpa using hk),Wo,hi]
   rw[hc,OV];refine ⟨fun hmem=>?_,key _ (List.Sublist.refl _)⟩;obtain ⟨p,p1,p2,p3⟩:=UZ hmem;obtain ⟨e,he,p1⟩:=Ay.1 p1;obtain ⟨j,a1,a2,a3⟩:=XF m _ _ p p1;rw[p3]at a1;have:=VY h _ _ _ (a1.dep (.step hd hh he)) hd hh hk;omega
  ·have hc:Xb ((ns,zf n f.xs) :: (zf n f.xs).es.flatMap fun e=>jj f.xs m e.ino (ns++[e.name]))=Xb ((zf n f.xs).es.flatMap fun e=>jj f.xs m e.ino (ns++[e.name])):=by
    unfold Xb;rw[O4 (by simpa using hk)]
   rw[hc];exact key _ (List.Sublist.refl _)
end
section
def Hj (l:J3):Nat:=(l.map fun p=>p.2.es.length).sum
theorem zex (a b:J3):Hj (a++b)=Hj a+Hj b:=by unfold Hj;rw[WY,BR]
theorem zbd {xs:List zo}:∀ (m:Nat) (n:Int) (ns:List Lz),(jj xs m n ns).length<=1+Hj (jj xs m n ns)
 | 0,n,ns=>Wc _
 | m+1,n,ns=>by
  unfold jj;split
  ·have key:∀ L:List zS,(L.flatMap fun e=>jj xs m e.ino (ns++[e.name])).length<=L.length+Hj (L.flatMap fun e=>jj xs m e.ino (ns++[e.name])):=by
    intro L
    induction L with
    | nil=>exact Wb _
    | cons e r ih =>
     rw[As,Wi,zex,Wh];have:=zbd (xs:=xs) m e.ino (ns++[e.name]);omega
   have:=key (zf n xs).es;have hs:∀ l:J3,Hj ((ns,zf n xs) :: l)=(zf n xs).es.length+Hj l:=fun l=>by unfold Hj;rw[Wo,OY]
   rw[Wh,hs];omega
  ·exact Wc _
theorem zjq {l:J3} (h:∀ p∈l,p.2.es.length<=3240/\(p.2.kind≠2->p.2.es = [])):Hj l<=3240*(Xb l).length:=by
 induction l with
 | nil=>exact Wc _
 | cons p r ih =>
  have hp:=h p Wl;have ih:=ih fun q hq=>h q (Wn _ hq);unfold Hj at ih ⊢;rw[Wo,OY];unfold Xb at ih ⊢;by_cases hk:p.2.kind=2
  ·rw[Om (by simpa using hk),Wo,Wh];omega
  ·rw[O4 (by simpa using hk),hp.2 hk];simpa using ih
theorem zjs (h:okM f) (m:Nat) (n:Int) (ns:List Lz):(jj f.xs m n ns).length<=10497601:=by
 obtain ⟨h0,_,h2,_⟩:=qU h;cases hh:zk n f.xs with
 | false =>
  cases m with
  | zero=>exact Wc _
  | succ m=>unfold jj;rw[hh];exact Wc _
 | true =>
  have h1:=zbd (xs:=f.xs) m n ns;have hg:∀ p∈jj f.xs m n ns,p.2∈f.xs:=fun p hp=>by
   obtain ⟨j,_,q2,q3⟩:=XF m n ns p hp;rw[←q3];exact (jB q2).1
  have hs:=zjq (l:=jj f.xs m n ns) fun p hp=>⟨(h0.2 _ (hg p hp)).2.1,fun hk=>((h2 _ (hg p hp)).2.1 hk).1⟩;have hd:=Vb (Xk h m n ns hh) fun d hd=>by
   obtain ⟨p,p1,_,rfl⟩:=UZ hd;obtain ⟨_,_,q2,_⟩:=XF m n ns p p1;exact q2
  have:=h0.1;omega
def zib (ns:List Lz):Nat:=(ns.map fun x=>x.length+1).sum
theorem xj (ns:List Lz) (x:Lz):zib (ns++[x])=zib ns+(x.length+1):=by
 unfold zib;rw[WY,BR];simp
theorem VG {xs:List zo} (h0:zo8 xs):∀ (m:Nat) (n:Int) (ns:List Lz),∀ p∈jj xs m n ns,p.1.length<=ns.length+m/\zib p.1<=zib ns+m*301
 | 0,n,ns,p,hp=>by cases hp
 | m+1,n,ns,p,hp=>by
  unfold jj at hp;split at hp
  ·rename_i hh;obtain ⟨hm,_⟩:=jB hh;rcases WK.1 hp with rfl | hp
   ·exact ⟨BH _ _,BH _ _⟩
   ·obtain ⟨e,he,hp⟩:=Ay.1 hp;obtain ⟨q1,q2⟩:=VG h0 m _ _ p hp;have:=(h0.2 _ hm).2.2 e he;rw[xj]at q2;rw[Wi,OF]at q1;exact ⟨by omega,by omega⟩
  ·cases hp
theorem Qh (ns:List Lz):(Lib.join ns [47]).length<=zib ns:=by
 by_cases h:ns = []
 ·subst h;exact Wc _
 ·have:=QX ns h;unfold zib;omega
theorem zk9 (h:okM f) (n:Int) (ns:List Lz) (h1:ns.length<=100000) (h2:zib ns<=20000):uF (trV f.xs) n ns:=by
 obtain ⟨h0,_⟩:=qU h;refine ⟨WL (zjs h _ n ns) (by decide),fun p hp=>?_⟩;obtain ⟨q1,q2⟩:=VG h0 _ n ns p hp;have:=Qh p.1;have:=h0.1;exact ⟨by omega,by omega⟩
end
section
theorem Gi {xs:List zo}:∀ (m:Nat) (n:Int) (ns:List Lz) (j:Nat) (d:Int),Anc xs n j d->j<m->zk n xs=true->(∀ x∈xs,∀ e∈x.es,zk e.ino xs=true)->∃ p∈jj xs m n ns,p.2.ino=d
 | 0,n,ns,j,d,ha,hj,hh,h3=>by omega
 | m+1,n,ns,0,d,ha,hj,hh,h3=>by
  cases ha;obtain ⟨_,hi⟩:=jB hh;refine ⟨(ns,zf n xs),?_,hi⟩;unfold jj;rw[if_pos hh];exact Wl
 | m+1,n,ns,j+1,d,ha,hj,hh,h3=>by
  have key:∀ (j:Nat) (d:Int),Anc xs n (j+1) d->∃ e∈(zf n xs).es,Anc xs e.ino j d:=by
   intro j
   induction j with
   | zero =>
    intro d ha;cases ha with
    | step a b c=>cases a;exact ⟨_,c,.same⟩
   | succ j ih =>
    intro d ha;cases ha with
    | step a b c =>
     obtain ⟨e,he,h⟩:=ih _ a;exact ⟨e,he,.step h b c⟩
  obtain ⟨e,he,h⟩:=key j d ha;obtain ⟨hm,_⟩:=jB hh;obtain ⟨p,p1,p2⟩:=Gi m e.ino (ns++[e.name]) j d h (by omega) (h3 _ hm e he) h3;refine ⟨p,?_,p2⟩;unfold jj;rw[if_pos hh];exact Wn _ (Ay.2 ⟨e,he,p1⟩)
theorem zhA {xs:List zo}:∀ {k:Nat} {n:Int},Dep xs k n->Anc xs 1 k n
 | _,_,.root=>.same
 | _,_,.step a b c=>.step (zhA a) b c
theorem zfR (h:okM f) {n:Int} (hh:zk n f.xs=true):∃ p∈trV f.xs 1 [],p.2.ino=n:=by
 obtain ⟨_,h1,_,h3,_⟩:=qU h;obtain ⟨k,hk,hd⟩:=zl1 h hh;exact Gi _ 1 [] k n (zhA hd) (by omega) h1.2.2.2.2.2.2.2.1 h3
theorem Hm {m:Nat} {p:List Lz×zo} (hp:p∈jj f.xs m n ns):zk p.2.ino f.xs=true/\zf p.2.ino f.xs=p.2:=by
 obtain ⟨_,_,q⟩:=XF m n ns p hp;exact q
theorem UP:∀ {l:J3} {n:Int},(Xb l).Nodup->(∀ p∈l,p.2.ino=n->p.2.kind=2)->(∃ p∈l,p.2.ino=n)->∃ p,l.filter (fun p=>decide (p.2.ino=n)) = [p]
 | [],n,_,_,⟨p,hp,_⟩=>by cases hp
 | q :: l,n,hn,hk,hex=>by
  have hk':∀ p∈l,p.2.ino=n->p.2.kind=2:=fun p hp=>hk p (Wn _ hp);by_cases hq:q.2.ino=n
  ·have hk2:=hk q Wl hq;have hc:Xb (q :: l)=q.2.ino :: Xb l:=by
    unfold Xb;rw[Om (by simpa using hk2),Wo]
   rw[hc,OV,hq]at hn;have he:l.filter (fun p=>decide (p.2.ino=n)) = []:=by
    rw[A0];intro p hp hpn;have hpn:=WR hpn;refine hn.1 ?_;exact WS.2 ⟨p,Oy.2 ⟨hp,by simpa using hk' p hp hpn⟩,hpn⟩
   exact ⟨q,by rw[Om (by simpa using hq),he]⟩
  ·have hn':(Xb l).Nodup:=by
    unfold Xb at hn ⊢;by_cases hk2:q.2.kind=2
    ·rw[Om (by simpa using hk2),Wo,OV]at hn;exact hn.2
    ·rw[O4 (by simpa using hk2)]at hn;exact hn
   obtain ⟨p,hp,hpn⟩:=hex;have hpl:p∈l:=by
    rcases WK.1 hp with rfl | hp
    ·exact absurd hpn hq
    ·exact hp
   obtain ⟨p',h⟩:=UP hn' hk' ⟨p,hpl,hpn⟩;exact ⟨p',by rw[O4 (by simpa using hq)];exact h⟩
theorem yg (h:okM f) {n:Int} (hh:zk n f.xs=true) (hk:(zf n f.xs).kind=2):∃ p,Zh n (trV f.xs 1 []) = [p]/\k9 n (trV f.xs 1 [])=some p:=by
 obtain ⟨_,h1,_⟩:=qU h;have hkk:∀ p∈trV f.xs 1 [],p.2.ino=n->p.2.kind=2:=fun p hp hpn=>by
  obtain ⟨_,q⟩:=Hm hp;rw[hpn]at q;rw[←q];exact hk
 obtain ⟨p,hp⟩:=UP (Xk h _ 1 [] h1.2.2.2.2.2.2.2.1) hkk (zfR h hh);refine ⟨qy p.1,by unfold Zh;rw[hp];rfl,?_⟩;unfold k9;have he:(fun q:List Lz×zo=>decide (q.2.ino=n)&&decide (q.2.kind=2))=fun q=>decide (q.2.ino=n)&&decide (q.2.kind=2):=rfl;rw[←List.head?_filter];have hf:(trV f.xs 1 []).filter (fun q=>decide (q.2.ino=n)&&decide (q.2.kind=2))=(trV f.xs 1 []).filter fun q=>decide (q.2.ino=n):=by
  refine List.filter_congr fun q hq=>?_;by_cases hqn:q.2.ino=n
  ·simp[hqn,hkk q hq hqn]
  ·simp[hqn]
 rw[hf,hp];rfl
end
section
theorem NI {xs:List zo} (hm:∀ x∈xs,∀ e∈x.es,may e.name=true):∀ (m:Nat) (n:Int) (ns:List Lz),∀ p∈jj xs m n ns,∃ zs,p.1=ns++zs/\∀ z∈zs,may z=true
 | 0,n,ns,p,hp=>by unfold jj at hp;cases hp
 | m+1,n,ns,p,hp=>by
  unfold jj at hp;split at hp
  ·rename_i hh;rcases WK.1 hp with rfl | hp
   ·exact ⟨[],by simp,fun z hz=>by cases hz⟩
   ·obtain ⟨e,he,hp⟩:=Ay.1 hp;obtain ⟨zs,h1,h2⟩:=NI hm m e.ino _ p hp;refine ⟨e.name :: zs,by rw[h1,WI];rfl,fun z hz=>?_⟩;rcases WK.1 hz with rfl | hz
    ·exact hm _ (jB hh).1 e he
    ·exact h2 z hz
  ·cases hp
theorem zff {es:List zS} (h:Xl es):es.Pairwise fun a b=>a.name≠b.name:=by
 have key:∀ (d i:Nat) (hj:i+d+1<es.length),es[i].name<es[i+d+1].name:=by
  intro d
  induction d with
  | zero =>
   intro i hj;have h1:=(h (i+1) hj).2.2 (by omega);rw[bytesLess_eq]at h1;exact WR h1
  | succ d ih =>
   intro i hj;have h1:=(h (i+(d+1)+1) hj).2.2 (by omega);rw[bytesLess_eq]at h1;have h1:=WR h1;have h2:=ih i (by omega);exact List.lt_trans h2 h1
 refine WV.2 fun i j hi hj hij he=>?_;obtain ⟨d,rfl⟩:∃ d,j=i+d+1:=⟨j-i-1,by omega⟩;have h1:=key d i hj;rw[he]at h1;exact List.lt_irrefl _ h1
theorem kx (h:okM f):(∀ x∈f.xs,∀ e∈x.es,may e.name=true)/\∀ x∈f.xs,x.es.Pairwise fun a b=>a.name≠b.name:=by
 obtain ⟨_,_,h2,_⟩:=qU h;have key:∀ x∈f.xs,Xl x.es:=fun x hx=>by
  by_cases hk:x.kind=2
  ·exact ((h2 x hx).2.2.1 hk).2
  ·rw[((h2 x hx).2.1 hk).1];intro i hi;simp at hi
 refine ⟨fun x hx e he=>?_,fun x hx=>zff (key x hx)⟩;obtain ⟨i,hi,rfl⟩:=WH he;exact (key x hx i hi).1
end
section
open CA CB
open Go.RowKit
def J9 (p n:Lz):Lz:=if Lib.hasSuffix p [47] then p++n else p++[47]++n
theorem zgm (p n:Lz) (hp:p.length<=1000000) (hn:n.length<=1000000):Fun Tryz.prog G0 69 [.str p,.str n] (.str (J9 p n)) 0:=by
 have h:=Z3 p [47] hp;cases hs:Lib.hasSuffix p [47] with
 | true =>
  have e:J9 p n=p++n:=by unfold J9;rw[hs,if_pos rfl]
  rw[hs]at h;refine fon Tryz.func69 ?_;dsimp only[Tryz.f69];push_cast;refine cl h ?_;push_cast
  repeat refine an ?_
  exact dn (by push_cast [ze,zd,CLe,zg,e])
 | false =>
  have e:J9 p n=p++[47]++n:=by unfold J9;rw[hs];rfl
  rw[hs]at h;refine fon Tryz.func69 ?_;dsimp only[Tryz.f69];push_cast;refine cl h ?_;push_cast
  repeat refine an ?_
  exact dn (by push_cast [ze,zd,CLe,zg,e])
theorem zcC (p n:Lz) (hp:p.length<=1000000) (hn:n.length<=1000000):Fun Tryz.prog G0 79 [.str p,.str n] (.str (J9 p n)) 0:=by
 rcases Ah p with rfl | ⟨l,b,rfl⟩
 ·have e:J9 [] n = []++[47]++n:=rfl;refine fon Tryz.func79 ?_;dsimp only[Tryz.f79];push_cast
  repeat refine an ?_
  exact dn (by push_cast [ze,zd,CLe,zg,e])
 ·rw[O0]at hp ⊢;have hll:((l++[b]).length:Int)=(l.length:Int)+1:=by simp
  have hpos:((0:Int)<(l.length:Int)+1)=True:=eq_true (by omega);have hm1:(l.length:Int)+1-1=(l.length:Int):=by omega
  have hb:(l++[b])[l.length]?=some b:=by simp
  have hsx:Lib.hasSuffix (l++[b]) [47]=decide (b=47):=zkQ l b;by_cases h:b=47
  ·have e:J9 (l++[b]) n=l++[b]++n:=by unfold J9;rw[hsx,if_pos (Wm h)]
   have h':((b.toNat:Int)=47)=True:=eq_true (by rw[h];rfl);generalize l++[b]=p at *;refine fon Tryz.func79 ?_;dsimp only[Tryz.f79];push_cast [hll,hpos,hm1,Ol,hb,h']
   repeat refine an ?_
   exact dn (by push_cast [ze,zd,CLe,zg,e])
  ·have e:J9 (l++[b]) n=l++[b]++[47]++n:=by unfold J9;rw[hsx,if_neg (by simpa using h)]
   have h':((b.toNat:Int)=47)=False:=Wu (yx h);generalize l++[b]=p at *;refine fon Tryz.func79 ?_;dsimp only[Tryz.f79];push_cast [hll,hpos,hm1,Ol,hb,h']
   repeat refine an ?_
   exact dn (by push_cast [ze,zd,CLe,zg,e])
theorem zl6 (h:okM f) {n:Int} (hh:zk n f.xs=true) (hk:(zf n f.xs).kind=2) :
  ∃ ns,(∀ z∈ns,may z=true)/\ns.length<=3241/\zib ns<=980000/\Zh n (trV f.xs 1 []) = [qy ns]/\k9 n (trV f.xs 1 [])=some (qy ns):=by
 obtain ⟨h0,h1,_⟩:=qU h;have hkk:∀ p∈trV f.xs 1 [],p.2.ino=n->p.2.kind=2:=fun p hp hpn=>by
  obtain ⟨_,q⟩:=Hm hp;rw[hpn]at q;rw[←q];exact hk
 obtain ⟨p,hp⟩:=UP (Xk h _ 1 [] h1.2.2.2.2.2.2.2.1) hkk (zfR h hh);obtain ⟨q,q1,q2⟩:=yg h hh hk;have hq:Zh n (trV f.xs 1 []) = [qy p.1]:=by unfold Zh;rw[hp];rfl
 rw[hq]at q1;have hqe:qy p.1=q:=by simpa using q1
 have hpm:p∈trV f.xs 1 []:=(Oy.1 (by rw[hp];exact W3.2 rfl)).1;obtain ⟨zs,z1,z2⟩:=NI (kx h).1 _ 1 [] p hpm;obtain ⟨t1,t2⟩:=VG h0 _ 1 [] p hpm;have t3:=Qh p.1;have t4:zib []=0:=rfl;have h40:=h0.1;rw[Ox]at z1;rw[←z1]at z2;simp only[Wz,t4]at t1 t2;exact ⟨p.1,z2,by omega,by omega,hq,by rw[q2,hqe]⟩
def zX (f:FsV) (s:zK):Lz:=Hb ((k9 s.dir (trV f.xs 1 [])).getD []) s.name
theorem ya (f:FsV) (h:okM f) (s:zK) (hh:zk s.dir f.xs=true) (hk:(zf s.dir f.xs).kind=2) (hm:may s.name=true):Fun Tryz.prog G0 74 [.agg (fsC f),.agg (jt s)] (.str (zX f s)) 0:=by
 obtain ⟨ns,n1,n2,n3,n4,n5⟩:=zl6 h hh hk;have hp:=vM f s.dir _ (zmB h) (zk9 h 1 [] (by decide) (by decide));have hml:=N2 hm;have hjw:=Qh ns;have hjl:(qy ns).length<=980001:=by unfold qy;split<;>simp<;>omega
 have hr:=UM (qy ns) (by omega);unfold HQ at hr;rw[XP ns fun z hz=>JR (n1 z hz)]at hr;have hj:=Qd (ns++[s.name]) (by simp;omega) (by
  have a1:=Qh (ns++[s.name]);rw[xj]at a1;omega)
 rw[QO ns s.name fun y hy=>(JR (n1 y hy)).1]at hj;have e:zX f s=Hb (qy ns) s.name:=by unfold zX;rw[n5];rfl
 rw[n5]at hp;have hsl:(zE ns).length=ns.length:=We ..;refine fof (fun i=>if i=2 then [false,false,false,false,false,false,true,false,false] else []) Tryz.func74 ?_;dsimp only[Tryz.f74];push_cast;refine cl hp ?_;push_cast [WO,OL];refine cl hr ?_;push_cast
 repeat refine an ?_
 refine cl hj ?_;push_cast;exact dn (by push_cast [ze,zd,CLe,zg,e])
end
section
open Go.RowKit
end
section
open Go.RowKit
end
section
open CA CB
open Go.RowKit
end
section
open Go.RowKit Go.ChangeMaps Go.ChangeShapes Go.WideShapes Go.Deep Go.Joins
section
variable {H:Type} {enc:TypeId×Value->H} {W:World}
end
theorem ztl {W:World} {l:List (String×DataW Unit)} (h:laidMetH Tryz.prog l W) (hp:(l.filter fun x=>x.2.handleName?.isSome) = []) (hm:("drayman/op.has",Rows.laid_drayman_op_has)∈l):XZ G1 (M1 W):=fun g cs hc=>by
 unfold G1 at hc;split at hc
 ·rename_i hg;subst hg;cases hc;exact JK (t:=267) h hp hm (by kernel_rfl) (by kernel_rfl) (m:=4) (by kernel_rfl) (by kernel_rfl) (by kernel_rfl)
 ·cases hc
theorem zs4 {W:World} {l:List (String×DataW Unit)} (h:laidMetH Tryz.prog l W) (hp:(l.filter fun x=>x.2.handleName?.isSome) = []) (hm1:("drayman/diag.phrases",Rows.laid_drayman_diag_phrases)∈l) (hm2:("drayman/args.kinds",Rows.laid_drayman_args_kinds)∈l) (hm3:("drayman/errs.messages",Rows.laid_drayman_errs_messages)∈l):XZ G2 (M1 W):=fun g cs hc=>by
 unfold G2 at hc;split at hc
 ·rename_i hg;subst hg;cases hc;exact JK (t:=215) h hp hm1 (by kernel_rfl) (by kernel_rfl) (m:=4) (vs:=phr.map fun l=>Value.string ⟨l.toArray⟩) (by kernel_rfl) (by kernel_rfl) (by kernel_rfl)
 ·split at hc
  ·rename_i hg;subst hg;cases hc;exact JK (t:=214) h hp hm2 (by kernel_rfl) (by kernel_rfl) (m:=4) (by kernel_rfl) (by kernel_rfl) (by kernel_rfl)
  ·split at hc
   ·rename_i hg;subst hg;cases hc;exact JK (t:=262) h hp hm3 (by kernel_rfl) (by kernel_rfl) (m:=4) (vs:=ztG.map fun l=>Value.string ⟨l.toArray⟩) (by kernel_rfl) (by kernel_rfl) (by kernel_rfl)
   ·cases hc
theorem zs7 {W:World} {l:List (String×DataW Unit)} (h:laidMetH Tryz.prog l W) (hp:(l.filter fun x=>x.2.handleName?.isSome) = []) (hm:("drayman/op.has",Rows.laid_drayman_op_has)∈l) (hm1:("drayman/diag.phrases",Rows.laid_drayman_diag_phrases)∈l) (hm2:("drayman/args.kinds",Rows.laid_drayman_args_kinds)∈l) (hm3:("drayman/errs.messages",Rows.laid_drayman_errs_messages)∈l):XZ GD (M1 W):=fun g cs hc=>by
 unfold GD at hc;split at hc
 ·exact ztl h hp hm g cs hc
 ·exact zs4 h hp hm1 hm2 hm3 g cs hc
end
section
structure zlT (x:zo):Prop where
 par:x.kind≠2->x.parent=0
 bare:x.kind=2->x.data = []
 nam:∀ e∈x.es,may e.name=true
 lnk:x.kind=3->1<=x.data.length/\x.data.length<=4095/\∀ b∈x.data,b≠0
 named:x.ino≠1->1<=x.links
 one:x.kind=2->x.ino≠1->x.links=1
 top:x.ino=1->x.parent=1
def zsw (rk:Int->Nat) (xs:List zo):Prop:=∀ y∈xs,∀ e∈y.es,(zf e.ino xs).kind=2->(zf e.ino xs).parent=y.ino/\rk y.ino<rk e.ino
structure FsR (f:FsV):Prop where
 node:∀ x∈f.xs,zlT x
 edge:∃ rk,zsw rk f.xs
 fit:(f.xs.length:Int)<=f.maxI/\(ql f.xs:Int)<=f.maxB
 lim:1<=f.maxI/\f.maxI<=1073741824/\0<=f.maxB/\f.maxB<=1073741824
theorem yb (h:qc xs) {x y:zo} (hx:x∈xs) (hy:y∈xs) (e:x.ino=y.ino):x=y:=by
 obtain ⟨i,hi,rfl⟩:=WH hx;obtain ⟨j,hj,rfl⟩:=WH hy;have hp:=WV.1 h;rcases Ar i j with q | q | q
 ·have:=hp i j hi hj q;omega
 ·subst q;rfl
 ·have:=hp j i hj hi q;omega
theorem vm (h:qc xs):(xs.map (·.ino)).Nodup:=by
 rw[List.Nodup,List.pairwise_map];exact List.Pairwise.imp (fun q e=>by omega) h
theorem VE:(n,p)∈qn xs↔∃ y∈xs,∃ e∈y.es,e.ino=n/\y.ino=p:=by
 unfold qn;rw[Ay];refine exists_congr fun y=>and_congr_right fun hy=>?_;unfold VU;rw[WS];refine exists_congr fun e=>and_congr_right fun he=>?_;rw[Prod.mk.injEq]
theorem zeE (h1:1<=ZA n l) (h:∀ q,(n,q)∈l->q=p):UG n l=p:=by
 unfold ZA at h1;unfold UG;cases hq:(l.filter fun p=>p.1==n).getLast? with
 | none=>rw[List.getLast?_eq_none_iff]at hq;rw[hq]at h1;simp at h1
 | some r =>
  obtain ⟨h2,h3⟩:=Oy.1 (List.mem_of_getLast? hq);have h3:r.1=n:=by simpa using h3
  show r.2=p;exact h r.2 (by rw[←h3];exact h2)
theorem zkB {es:List zS}:∀ S:List Int,∃ t,HF S es=S++t:=by
 induction es with
 | nil=>exact fun S=>⟨[],by simp[HF]⟩
 | cons e r ih =>
  intro S;obtain ⟨t,h⟩:=ih (Y1 S e.ino);show ∃ t,HF (Y1 S e.ino) r=S++t;rw[h];unfold Y1;split
  ·exact ⟨t,rfl⟩
  ·exact ⟨e.ino :: t,by simp⟩
theorem U8 {xs:List zo} (h3:∀ x∈xs,∀ e∈x.es,zk e.ino xs=true):∀ (m i:Nat) (S:List Int),YW xs S->(∀ j<i,∀ n,S[j]?=some n->∀ e∈(zf n xs).es,e.ino∈S)->xs.length+1<=m+i ->
  (∀ n∈S,n∈Zs xs m i S)/\∀ n∈Zs xs m i S,∀ e∈(zf n xs).es,e.ino∈Zs xs m i S
 | 0,i,S,hS,hc,hm=>by
  have hl:=Vb hS.nodup hS.has;show (∀ n∈S,n∈S)/\∀ n∈S,∀ e∈(zf n xs).es,e.ino∈S;refine ⟨fun n h=>h,fun n hn e he=>?_⟩;obtain ⟨j,hj,rfl⟩:=WH hn;exact hc j (by omega) _ (Wa hj) e he
 | m+1,i,S,hS,hc,hm=>by
  unfold Zs;cases hg:S[i]? with
  | none =>
   have hi:=List.getElem?_eq_none_iff.1 hg;show (∀ n∈S,n∈S)/\∀ n∈S,∀ e∈(zf n xs).es,e.ino∈S;refine ⟨fun n h=>h,fun n hn e he=>?_⟩;obtain ⟨j,hj,rfl⟩:=WH hn;exact hc j (by omega) _ (Wa hj) e he
  | some n =>
   have hn:=hS.has n (Wg hg);have hi:=(Wd.1 hg).1;have hg':=zj hn;obtain ⟨t,ht⟩:=zkB (es:=(zf n xs).es) S;have hsub:∀ k∈S,k∈HF S (zf n xs).es:=fun k hk=>Nl.2 (.inl hk);obtain ⟨r1,r2⟩:=U8 h3 m (i+1) (HF S (zf n xs).es) (yp hS fun e he=>h3 _ hg'.2.1 e he) (fun j hj k hk e he=>by
    rcases Wr j i with hji | hji
    ·have:S[j]?=some k:=by rw[ht,Ww (by omega)]at hk;exact hk
     exact hsub _ (hc j hji k this e he)
    ·have:j=i:=by omega
     subst this;rw[ht,Ww hi,hg]at hk;cases hk;exact Nl.2 (.inr ⟨e,he,rfl⟩)) (by omega)
   exact ⟨fun k hk=>r1 k (hsub k hk),r2⟩
theorem zag (h:1<=ZA n l):∃ p,(n,p)∈l:=by
 unfold ZA at h;obtain ⟨r,hr⟩:=List.exists_mem_of_length_pos (l:=l.filter fun p=>p.1==n) (by omega);obtain ⟨h1,h2⟩:=Oy.1 hr;have h2:r.1=n:=by simpa using h2
 exact ⟨r.2,by rw[←h2];exact h1⟩
theorem FsR.links (hi:FsI f) {x:zo} (hx:x∈f.xs):x.links=(ZA x.ino (qn f.xs):Int):=by rw[Qo];exact hi.links x hx
theorem Nf (hi:FsI f) {y:zo} (hy:y∈f.xs) {e:zS} (he:e∈y.es):y.kind=2:=by
 by_cases h:y.kind=2
 ·exact h
 ·rw[hi.file y hy h]at he;cases he
theorem Xg (hi:FsI f) {x:zo} (hx:x∈f.xs):zf x.ino f.xs=x:=by
 have h:=Ym hx;have h2:=zj h;exact yb hi.rises h2.2.1 hx h2.2.2
theorem FsR.come (hi:FsI f) (h:FsR f) {S:List Int} (h1:(1:Int)∈S) (hc:∀ n∈S,∀ e∈(zf n f.xs).es,e.ino∈S):∀ n,zk n f.xs=true->n∈S:=by
 obtain ⟨rk,hr⟩:=h.edge;have dirs:∀ (k:Nat) (n:Int),rk n<=k->zk n f.xs=true->(zf n f.xs).kind=2->n∈S:=by
  intro k
  induction k with
  | zero =>
   intro n hk hn hd;by_cases h0:n=1
   ·rw[h0];exact h1
   obtain ⟨g1,g2,g3⟩:=zj hn;have hl:=(h.node _ g2).named (by rw[g3];exact h0);rw[FsR.links hi g2,g3]at hl;obtain ⟨p,hp⟩:=zag (n:=n) (l:=qn f.xs) (by omega);obtain ⟨y,hy,e,he,q1,q2⟩:=VE.1 hp;have:=(hr y hy e he (by rw[q1];exact hd)).2;rw[q1]at this;omega
  | succ k ih =>
   intro n hk hn hd;by_cases h0:n=1
   ·rw[h0];exact h1
   obtain ⟨g1,g2,g3⟩:=zj hn;have hl:=(h.node _ g2).named (by rw[g3];exact h0);rw[FsR.links hi g2,g3]at hl;obtain ⟨p,hp⟩:=zag (n:=n) (l:=qn f.xs) (by omega);obtain ⟨y,hy,e,he,q1,q2⟩:=VE.1 hp;have hlt:=(hr y hy e he (by rw[q1];exact hd)).2;rw[q1]at hlt;have hs:=Xg hi hy;have:=ih y.ino (by omega) (Ym hy) (by rw[hs];exact Nf hi hy he);rw[←q1];exact hc y.ino this e (by rw[hs];exact he)
 intro n hn;by_cases h0:n=1
 ·rw[h0];exact h1
 obtain ⟨g1,g2,g3⟩:=zj hn;have hl:=(h.node _ g2).named (by rw[g3];exact h0);rw[FsR.links hi g2,g3]at hl;obtain ⟨p,hp⟩:=zag (n:=n) (l:=qn f.xs) (by omega);obtain ⟨y,hy,e,he,q1,q2⟩:=VE.1 hp;have hs:=Xg hi hy;have:=dirs _ y.ino (Wb _) (Ym hy) (by rw[hs];exact Nf hi hy he);rw[←q1];exact hc y.ino this e (by rw[hs];exact he)
theorem vG {es:List zS} (hR:JE es) (h1:∀ e∈es,may e.name=true) (h2:∀ e∈es,1<=e.ino):Xl es:=fun i h =>
 ⟨h1 _ (Wx h),h2 _ (Wx h),fun h0=>WV.1 hR (i-1) i (by omega) h (by omega)⟩
theorem FsR.check (hi:FsI f) (h:FsR f) (hn:f.next<=1099511627776):JD f=0:=by
 have h1:JB f:=⟨h.lim.1,h.lim.2.1,h.lim.2.2.1,h.lim.2.2.2,hn,hi.ino,hi.rises,hi.root,hi.base⟩;have h2:Y4 f:=fun x hx=>⟨hi.kind x hx,fun hk=>⟨hi.file x hx hk,(h.node x hx).par hk⟩,fun hk=>⟨(h.node x hx).bare hk,vG (hi.es x hx) (h.node x hx).nam fun e he=>by
  have:=hi.led x hx e he;have g:=zj this;have:=(hi.ino _ g.2.1).1;rw[g.2.2]at this;exact this⟩,(h.node x hx).lnk⟩
 have h3:YX f:=hi.led;obtain ⟨rk,hr⟩:=h.edge;have h4:Xa f:=fun x hx=>by
  have hl:=FsR.links hi hx;refine ⟨hl,?_⟩;by_cases h0:x.ino=1
  ·rw[if_pos h0,h0];exact ⟨by rw[Qo];exact hi.bare,(h.node x hx).top h0⟩
  ·rw[if_neg h0];have hk:=(h.node x hx).named h0;refine ⟨by omega,fun hd=>?_⟩;have ho:=(h.node x hx).one hd h0;refine ⟨by omega,(zeE (by omega) fun q hq=>?_).symm⟩;obtain ⟨y,hy,e,he,q1,q2⟩:=VE.1 hq;have:=(hr y hy e he (by rw[q1,Xg hi hx];exact hd)).1;rw[q1,Xg hi hx]at this;rw[←q2,this]
 have h5:Q9 f:=by
  have hS:YW f.xs [1]:=⟨by simp,fun n hn=>by rw[W3.1 hn];exact hi.root⟩;obtain ⟨r1,r2⟩:=U8 hi.led (f.xs.length+1) 0 [1] hS (fun j hj=>absurd hj (OJ _)) (by omega);have hok:=(G9 hi.led (f.xs.length+1) 0 [1] hS (fun n hn=>by rw[W3.1 hn];exact ⟨0,.root⟩)).1;have hall:=h.come hi (r1 1 (by simp)) r2;have q1:=Vb hok.nodup hok.has;have q2:=U0 (S:=f.xs.map (·.ino)) (vm hi.rises) fun n hn=>hall n (G8.2 hn);rw[We]at q2;exact Nat.le_antisymm q1 q2
 unfold JD;rw[if_pos h1,if_pos h2,if_pos h3,if_pos h4,if_pos h5,if_pos (show HJ f from h.fit)]
open Classical in
theorem zgq (h:okM f):FsR f:=by
 obtain ⟨h0,h1,h2,h3,h4,h5,h6⟩:=qU h;have hi:=ZF h.2;refine ⟨fun x hx=>?_,?_,h6,h1.1,h1.2.1,h1.2.2.1,h1.2.2.2.1⟩
 ·obtain ⟨a1,a2,a3,a4⟩:=h2 x hx;obtain ⟨b1,b2⟩:=h4 x hx;refine ⟨fun hk=>(a2 hk).2,fun hk=>(a3 hk).1,fun e he=>?_,a4,fun hn=>?_,fun hk hn=>?_,fun hn=>?_⟩
  ·obtain ⟨i,hi',rfl⟩:=WH he;exact ((a3 (Nf hi hx he)).2 i hi').1
  ·rw[if_neg hn]at b2;rw[b1];omega
  ·rw[if_neg hn]at b2;rw[b1,(b2.2 hk).1];rfl
  ·rw[if_pos hn]at b2;exact b2.2
 ·refine ⟨fun n=>if hd:∃ k,Dep f.xs k n then hd.choose else 0,fun y hy e he hk=>?_⟩;have hs:=Xg hi hy;have hh:=hi.led y hy e he;have g:=zj hh;have hyk:=Nf hi hy he;have hey:e∈(zf y.ino f.xs).es:=by rw[hs];exact he
  have hne:e.ino≠1:=jb h (Ym hy) hey;constructor
  ·have b:=(h4 _ g.2.1).2;rw[g.2.2,if_neg hne]at b;obtain ⟨c1,c2⟩:=b.2 hk;rw[c2];exact zeE (by omega) fun q hq=>(vl (VE.2 ⟨y,hy,e,he,rfl,rfl⟩) hq c1).symm
  ·obtain ⟨k,hd⟩:=v6 h (Ym hy);have hd2:=Dep.step hd (Ym hy) hey;have e1:∃ k,Dep f.xs k y.ino:=⟨k,hd⟩;have e2:∃ k,Dep f.xs k e.ino:=⟨k+1,hd2⟩;show (if hd:∃ k,Dep f.xs k y.ino then hd.choose else 0)<if hd:∃ k,Dep f.xs k e.ino then hd.choose else 0;rw[dif_pos e1,dif_pos e2,VY h _ _ _ e1.choose_spec hd (Ym hy) (by rw[hs];exact hyk),VY h _ _ _ e2.choose_spec hd2 hh hk];exact Nat.lt_succ_self k
end
section
def bN (x:zo):Nat:=if x.kind=1 then x.data.length else 0
theorem Yy:∀ xs:List zo,ql xs=Mj bN xs
 | []=>rfl
 | x :: r=>by
  have ih:=Yy r;unfold ql Mj at ih ⊢;rw[Wo,OY,←ih,O5];unfold bN;by_cases h:x.kind=1<;>simp[h]
theorem Qu (hR:qc xs) {x:zo} (hh:zk x.ino xs=true):ql (qq x xs)+bN (zf x.ino xs)=ql xs+bN x:=by
 have:=UO bN (x:=x) hR;rw[(zj hh).1]at this;rw[Yy,Yy];exact this
theorem kD (hR:qc xs) {x:zo} (hh:zk x.ino xs=false):ql (qq x xs)=ql xs+bN x:=by
 have:=UO bN (x:=x) hR;rw[(Jn hh).1]at this;rw[Yy,Yy];exact this
theorem zbU (hR:qc xs) (n:Int):ql (qf n xs)<=ql xs:=by
 have:=ZI bN (n:=n) hR;rw[Yy,Yy];omega
theorem Xm (hR:qc xs) {n:Int} {F:List zS->List zS} (hh:zk n xs=true):ql (qr n F xs)=ql xs:=by
 have hg:=zj hh;have:=Qu hR (x:=qj (zf n xs) (F (zf n xs).es)) (by show zk (zf n xs).ino xs=true;rw[hg.2.2];exact hh);have e:bN (zf (qj (zf n xs) (F (zf n xs).es)).ino xs)=bN (qj (zf n xs) (F (zf n xs).es)):=by
  show bN (zf (zf n xs).ino xs)=bN (zf n xs);rw[hg.2.2]
 rw[e]at this;exact Nat.add_right_cancel this
theorem zn0 {x:zo} (hR:qc xs) (hh:zk x.ino xs=false):(qq x xs).length=xs.length+1:=by rw[←zaa hR hh];simp;have:=zfn x.ino xs;omega
theorem zfm (n:Int) (xs:List zo):(qf n xs).length<=xs.length:=OG _ _
theorem zlT.turn {x:zo} (h:zlT x) {es:List zS} (he:∀ e∈es,may e.name=true):zlT (qj x es):=⟨h.par,h.bare,he,h.lnk,h.named,h.one,h.top⟩
theorem jJ {m:Int} {F:List zS->List zS} (hh:zk n xs=true):(zf m (qr n F xs)).kind=(zf m xs).kind/\(zf m (qr n F xs)).parent=(zf m xs).parent/\(zf m (qr n F xs)).links=(zf m xs).links:=by
 rw[j6 hh];split
 ·subst_vars;exact ⟨rfl,rfl,rfl⟩
 ·exact ⟨rfl,rfl,rfl⟩
theorem FsR.like {g:FsV} (h:FsR f) (hN:∀ z∈g.xs,zlT z) (hE:∀ z∈g.xs,∀ e∈z.es,(zf e.ino g.xs).kind=2->∃ y∈f.xs,y.ino=z.ino/\e∈y.es/\(zf e.ino f.xs).kind=2/\(zf e.ino g.xs).parent=(zf e.ino f.xs).parent)
  (h1:g.maxI=f.maxI) (h2:g.maxB=f.maxB) (hl:g.xs.length<=f.xs.length) (hb:(ql g.xs:Int)<=f.maxB):FsR g:=by
 obtain ⟨rk,hr⟩:=h.edge;refine ⟨hN,⟨rk,fun z hz e he hk=>?_⟩,?_,by rw[h1,h2];exact h.lim⟩
 ·obtain ⟨y,hy,q1,q2,q3,q4⟩:=hE z hz e he hk;have:=hr y hy e q2 q3;rw[q4,←q1];exact this
 ·have:=h.fit;rw[h1,h2];omega
theorem zpW (hi:FsI f) (h:FsR f) {s:zK} (hs:JF f s) (hm:may s.name=true) {k:Int} {t:Lz} (hk:k=1∨k=2∨k=3) (hr:Vi f 1 (if k=1 then (t.length:Int) else 0)=true) (h2:k=2->t = [])
  (h3:k=3->1<=t.length/\t.length<=4095/\∀ b∈t,b≠0):FsR (zdR f s k t):=by
 obtain ⟨n1,n2⟩:=NQ hi;have hd:=zj hs.has;have hlt:=uj hi;have hdn:s.dir≠f.next:=fun e=>by have:=hs.has;rw[e,n1]at this;cases this
 have hR1:qc (qr s.dir (zZ s.name f.next) f.xs):=z8 hi.rises;have hn1:zk f.next (qr s.dir (zZ s.name f.next) f.xs)=false:=by rw[zP hs.has];exact n1
 obtain ⟨rk,hrk⟩:=h.edge;have hmem:∀ {z:zo},z∈(zdR f s k t).xs->z=⟨f.next,k,1,t,if k=2 then s.dir else 0,[]⟩∨z=qj (zf s.dir f.xs) (zZ s.name f.next (zf s.dir f.xs).es)∨(z∈f.xs/\z.ino≠s.dir):=fun {z} hz=>by
  rcases qz.1 hz with rfl | ⟨hz,_⟩
  ·exact .inl rfl
  ·exact .inr ((qF hs.has).1 hz)
 have hgot:∀ m,m≠f.next->(zf m (zdR f s k t).xs).kind=(zf m f.xs).kind/\(zf m (zdR f s k t).xs).parent=(zf m f.xs).parent:=fun m hm=>by
  have e:zf m (zdR f s k t).xs=zf m (qr s.dir (zZ s.name f.next) f.xs):=by
   show zf m (qq _ _)=_;rw[qN,if_neg (fun e:f.next=m=>hm e.symm)]
  rw[e];exact ⟨(jJ hs.has).1,(jJ hs.has).2.1⟩
 have hgn:zf f.next (zdR f s k t).xs=⟨f.next,k,1,t,if k=2 then s.dir else 0,[]⟩:=by
  show zf _ (qq _ _)=_;rw[qN,if_pos rfl]
 refine ⟨fun z hz=>?_,⟨fun n=>if n=f.next then rk s.dir+1 else rk n,fun y hy e he hke=>?_⟩,?_,h.lim⟩
 ·rcases hmem hz with rfl | rfl | ⟨hz,_⟩
  ·exact ⟨fun q=>if_neg q,h2,fun e he=>(by cases he),h3,fun _=>Af 1,fun _ _=>rfl,fun q=>by have q:f.next=1:=q;omega⟩
  ·exact (h.node _ hd.2.1).turn fun e he=>by
    rcases Yi he with rfl | he
    ·exact hm
    ·exact (h.node _ hd.2.1).nam e he
  ·exact h.node z hz
 ·have old:∀ y0∈f.xs,e∈y0.es->(zf e.ino (zdR f s k t).xs).parent=y0.ino/\(if y0.ino=f.next then rk s.dir+1 else rk y0.ino)<(if e.ino=f.next then rk s.dir+1 else rk e.ino):=fun y0 hy0 he0=>by
   have hne:=n2 y0 hy0 e he0;obtain ⟨g1,g2⟩:=hgot e.ino hne;rw[g1]at hke;have:=hrk y0 hy0 e he0 hke;rw[g2,if_neg hne,if_neg (fun q=>by have:=(hi.ino y0 hy0).2;omega)];exact this
  rcases hmem hy with rfl | rfl | ⟨hy,_⟩
  ·cases he
  ·rcases Yi he with rfl | he
   ·rw[hgn]at hke ⊢;have hke:k=2:=hke;show (if k=2 then s.dir else 0)=(zf s.dir f.xs).ino/\_;rw[if_pos hke,hd.2.2];refine ⟨rfl,?_⟩;show (if s.dir=f.next then _ else rk s.dir)<if f.next=f.next then _ else _;rw[if_neg hdn,if_pos rfl];exact Nat.lt_succ_self _
   ·exact old (zf s.dir f.xs) hd.2.1 he
  ·exact old y hy he
 ·unfold Vi at hr;simp only[Wt,W6]at hr;have hl:(zdR f s k t).xs.length=f.xs.length+1:=by
   show (qq _ _).length=_;rw[zn0 hR1 hn1,jq hi.rises hs.has]
  have hb:ql (zdR f s k t).xs=ql f.xs+bN ⟨f.next,k,1,t,if k=2 then s.dir else 0,[]⟩:=by
   show ql (qq _ _)=_;rw[kD hR1 hn1,Xm hi.rises hs.has]
  rw[hl,hb];show ((f.xs.length+1:Nat):Int)<=f.maxI/\((ql f.xs+(if k=1 then t.length else 0):Nat):Int)<=f.maxB;split at hr<;>(rename_i hq;simp only[hq,if_true,Oi];omega)
theorem zqM (hi:FsI f) (h:FsR f) {i:Int} (hh:zk i f.xs=true) (hk:(zf i f.xs).kind=1) {t:Lz} (hr:Vi f 0 ((t.length:Int)-(zf i f.xs).data.length)=true):FsR (X8 f i t):=by
 have hx:=zj hh;have hhi:zk ({ zf i f.xs with data:=t }:zo).ino f.xs=true:=by show zk (zf i f.xs).ino f.xs=true;rw[hx.2.2];exact hh
 have hn:=h.node _ hx.2.1;have hgot:∀ m,(zf m (X8 f i t).xs).kind=(zf m f.xs).kind/\(zf m (X8 f i t).xs).parent=(zf m f.xs).parent:=fun m=>by
  show (zf m (qq _ _)).kind=_/\_;unfold X8;simp only[qN,hx.2.2];split
  ·subst_vars;exact ⟨rfl,rfl⟩
  ·exact ⟨rfl,rfl⟩
 unfold Vi at hr;simp only[Wt,W6]at hr;refine h.like (fun z hz=>?_) (fun z hz e he hke=>?_) rfl rfl ?_ ?_
 ·rcases qz.1 hz with rfl | ⟨hz,_⟩
  ·exact ⟨hn.par,fun q=>by have q:(zf i f.xs).kind=2:=q;omega,hn.nam,fun q=>by have q:(zf i f.xs).kind=3:=q;omega,hn.named,hn.one,hn.top⟩
  ·exact h.node z hz
 ·rw[(hgot _).1]at hke;rcases qz.1 hz with rfl | ⟨hz,_⟩
  ·exact ⟨_,hx.2.1,rfl,he,hke,(hgot _).2⟩
  ·exact ⟨z,hz,rfl,he,hke,(hgot _).2⟩
 ·show (qq _ _).length<=_;rw[JQ hi.rises hhi];exact Wb _
 ·have:=Qu hi.rises hhi;have e1:bN (zf ({ zf i f.xs with data:=t }:zo).ino f.xs)=(zf i f.xs).data.length:=by
   show bN (zf (zf i f.xs).ino f.xs)=_;rw[hx.2.2];unfold bN;rw[if_pos hk]
  have e2:bN { zf i f.xs with data:=t }=t.length:=by unfold bN;rw[if_pos hk]
  rw[e1,e2]at this;show (ql (qq _ _):Int)<=_;omega
theorem zpU (hi:FsI f) (h:FsR f) {s:zK} (hs:JF f s) (hm:may s.name=true) {i:Int} (hh:zk i f.xs=true) (hk:(zf i f.xs).kind≠2):FsR (kC f s i):=by
 have hd:=zj hs.has;have hx:=zj hh;have hn:=h.node _ hx.2.1;have hR1:qc (qr s.dir (zZ s.name i) f.xs):=z8 hi.rises;have hhi:zk ({ zf i f.xs with links:=(zf i f.xs).links+1 }:zo).ino (qr s.dir (zZ s.name i) f.xs)=true:=by rw[zP hs.has];show zk (zf i f.xs).ino f.xs=true;rw[hx.2.2];exact hh
 have hgot:∀ m,(zf m (kC f s i).xs).kind=(zf m f.xs).kind/\(zf m (kC f s i).xs).parent=(zf m f.xs).parent:=fun m=>by
  unfold kC;simp only[qN,hx.2.2];split
  ·subst_vars;exact ⟨rfl,rfl⟩
  ·exact ⟨(jJ hs.has).1,(jJ hs.has).2.1⟩
 refine h.like (fun z hz=>?_) (fun z hz e he hke=>?_) rfl rfl ?_ ?_
 ·rcases qz.1 hz with rfl | ⟨hz,_⟩
  ·exact ⟨hn.par,hn.bare,hn.nam,hn.lnk,fun q=>by have:=hn.named q;show 1<=(zf i f.xs).links+1;omega,fun q=>absurd q hk,hn.top⟩
  ·rcases (qF hs.has).1 hz with rfl | ⟨hz,_⟩
   ·exact (h.node _ hd.2.1).turn fun e he=>by
     rcases Yi he with rfl | he
     ·exact hm
     ·exact (h.node _ hd.2.1).nam e he
   ·exact h.node z hz
 ·rw[(hgot _).1]at hke;rcases qz.1 hz with rfl | ⟨hz,_⟩
  ·exact ⟨_,hx.2.1,rfl,he,hke,(hgot _).2⟩
  ·rcases (qF hs.has).1 hz with rfl | ⟨hz,_⟩
   ·rcases Yi he with rfl | he
    ·exact absurd hke hk
    ·exact ⟨_,hd.2.1,rfl,he,hke,(hgot _).2⟩
   ·exact ⟨z,hz,rfl,he,hke,(hgot _).2⟩
 ·show (qq _ _).length<=_;rw[JQ hR1 hhi,jq hi.rises hs.has];exact Wb _
 ·have:=Qu hR1 hhi;have e1:bN (zf ({ zf i f.xs with links:=(zf i f.xs).links+1 }:zo).ino (qr s.dir (zZ s.name i) f.xs))=bN { zf i f.xs with links:=(zf i f.xs).links+1 }:=by
   show bN (zf (zf i f.xs).ino _)=_;rw[hx.2.2,j6 hs.has];split
   ·rename_i hq;exact absurd (by rw[←hq];exact hs.kind) hk
   ·rfl
  rw[e1,Xm hi.rises hs.has]at this;show (ql (qq _ _):Int)<=_;have:=h.fit.2;omega
theorem zlh (hi:FsI f) (h:FsR f) {s:zK} (hs:zx f s) (he:(zf s.ino f.xs).es = []):FsR (zl f s):=by
 have hok:=kK hi hs he;have hd:=zj hs.has;have hh:=zx.ino hi hs;have hx:=zj hh;have hn:=h.node _ hx.2.1;have hne:s.dir≠s.ino:=fun e=>by
  have:=(zT hs.there).2;rw[e,he]at this;cases this
 have hr1:=QF hi hs;have hR1:qc (qr s.dir (zi s.name) f.xs):=z8 hi.rises;have hdn:zlT (qj (zf s.dir f.xs) (zi s.name (zf s.dir f.xs).es)):=(h.node _ hd.2.1).turn fun e he=>(h.node _ hd.2.1).nam e (qK he).1;by_cases hl:(zf s.ino f.xs).links-1=0
 ·have e0:zl f s = { f with xs:=qf s.ino (qr s.dir (zi s.name) f.xs) }:=by unfold zl;rw[if_pos hl]
  rw[e0]at hok ⊢;refine h.like (fun z hz=>?_) (fun z hz e he hke=>?_) rfl rfl ?_ ?_
  ·rcases (qF hs.has).1 (Xw.1 hz).1 with rfl | ⟨hz,_⟩
   ·exact hdn
   ·exact h.node z hz
  ·have hee:e.ino≠s.ino:=fun q=>by
    have:=hok.led z hz e he;rw[Xu,q]at this;simp at this
   have hg:zf e.ino (qf s.ino (qr s.dir (zi s.name) f.xs))=zf e.ino (qr s.dir (zi s.name) f.xs):=by rw[ZP,if_neg hee]
   show ∃ y∈f.xs,y.ino=z.ino/\e∈y.es/\_/\(zf e.ino (qf s.ino _)).parent=_;have hke:(zf e.ino (qf s.ino (qr s.dir (zi s.name) f.xs))).kind=2:=hke;rw[hg,(jJ hs.has).1]at hke;rw[hg,(jJ hs.has).2.1];rcases (qF hs.has).1 (Xw.1 hz).1 with rfl | ⟨hz,_⟩
   ·exact ⟨_,hd.2.1,rfl,(qK he).1,hke,rfl⟩
   ·exact ⟨z,hz,rfl,he,hke,rfl⟩
  ·exact WL (zfm _ _) (by rw[jq hi.rises hs.has];exact Wb _)
  ·have:=zbU hR1 s.ino;rw[Xm hi.rises hs.has]at this;have:=h.fit.2;show (ql (qf _ _):Int)<=_;omega
 ·have e0:zl f s = { f with xs:=qq { zf s.ino f.xs with links:=(zf s.ino f.xs).links-1 } (qr s.dir (zi s.name) f.xs) }:=by unfold zl;rw[if_neg hl]
  rw[e0]at hok ⊢;have hhi:zk ({ zf s.ino f.xs with links:=(zf s.ino f.xs).links-1 }:zo).ino (qr s.dir (zi s.name) f.xs)=true:=by rw[zP hs.has];show zk (zf s.ino f.xs).ino f.xs=true;rw[hx.2.2];exact hh
  have hgot:∀ m,(zf m (qq { zf s.ino f.xs with links:=(zf s.ino f.xs).links-1 } (qr s.dir (zi s.name) f.xs))).kind=(zf m f.xs).kind/\(zf m (qq { zf s.ino f.xs with links:=(zf s.ino f.xs).links-1 } (qr s.dir (zi s.name) f.xs))).parent=(zf m f.xs).parent:=fun m=>by
   simp only[qN,hx.2.2];split
   ·subst_vars;exact ⟨rfl,rfl⟩
   ·exact ⟨(jJ hs.has).1,(jJ hs.has).2.1⟩
  have hnm:=hn.named (by rw[hx.2.2];exact hr1);refine h.like (fun z hz=>?_) (fun z hz e he hke=>?_) rfl rfl ?_ ?_
  ·rcases qz.1 hz with rfl | ⟨hz,_⟩
   ·exact ⟨hn.par,hn.bare,hn.nam,hn.lnk,fun q=>by show 1<=(zf s.ino f.xs).links-1;omega,fun q1 q2=>by have:=hn.one q1 q2;omega,hn.top⟩
   ·rcases (qF hs.has).1 hz with rfl | ⟨hz,_⟩
    ·exact hdn
    ·exact h.node z hz
  ·have hke:(zf e.ino (qq { zf s.ino f.xs with links:=(zf s.ino f.xs).links-1 } (qr s.dir (zi s.name) f.xs))).kind=2:=hke;rw[(hgot _).1]at hke;rcases qz.1 hz with rfl | ⟨hz,_⟩
   ·exact ⟨_,hx.2.1,rfl,he,hke,(hgot _).2⟩
   ·rcases (qF hs.has).1 hz with rfl | ⟨hz,_⟩
    ·exact ⟨_,hd.2.1,rfl,(qK he).1,hke,(hgot _).2⟩
    ·exact ⟨z,hz,rfl,he,hke,(hgot _).2⟩
  ·show (qq _ _).length<=_;rw[JQ hR1 hhi,jq hi.rises hs.has];exact Wb _
  ·have:=Qu hR1 hhi;have e1:bN (zf ({ zf s.ino f.xs with links:=(zf s.ino f.xs).links-1 }:zo).ino (qr s.dir (zi s.name) f.xs))=bN { zf s.ino f.xs with links:=(zf s.ino f.xs).links-1 }:=by
    show bN (zf (zf s.ino f.xs).ino _)=_;rw[hx.2.2,j6 hs.has,if_neg hne]
    rfl
   rw[e1,Xm hi.rises hs.has]at this;show (ql (qq _ _):Int)<=_;have:=h.fit.2;omega
end
section
inductive Bel (xs:List zo) (x:Int):Int->Prop
 | refl:Bel xs x x
 | step {y n:Int}:Bel xs x y->zk y xs=true->(∃ e∈(zf y xs).es,e.ino=n)->Bel xs x n
def zr5 (a b:zK) (y:zo) (es:List zS):Prop:=∀ e∈es,(e=⟨b.name,a.ino⟩/\y.ino=b.dir)∨(e∈y.es/\(y.ino=a.dir->e.name≠a.name))
theorem zoS (hi:FsI f) {a b:zK} (ha:zx f a) (hb:JF f b) {z:zo} (hz:z∈qr b.dir (zZ b.name a.ino) (qr a.dir (zi a.name) f.xs)):∃ y∈f.xs,∃ es,z=qj y es/\zr5 a b y es:=by
 have hda:=zj ha.has;have hdb:=zj hb.has;have hb1:zk b.dir (qr a.dir (zi a.name) f.xs)=true:=by rw[zP ha.has];exact hb.has
 have g1:∀ {z:zo},z∈qr a.dir (zi a.name) f.xs->∃ y∈f.xs,∃ es,z=qj y es/\∀ e∈es,e∈y.es/\(y.ino=a.dir->e.name≠a.name):=fun {z} hz=>by
  rcases (qF ha.has).1 hz with rfl | ⟨hz,hne⟩
  ·exact ⟨_,hda.2.1,_,rfl,fun e he=>⟨(qK he).1,fun _=>(qK he).2⟩⟩
  ·exact ⟨z,hz,z.es,rfl,fun e he=>⟨he,fun q=>absurd q hne⟩⟩
 rcases (qF hb1).1 hz with rfl | ⟨hz,hne⟩
 ·obtain ⟨y,hy,es,e1,e2⟩:=g1 (zj hb1).2.1;have hyb:y.ino=b.dir:=by
   have:=(zj hb1).2.2;rw[e1]at this;exact this
  refine ⟨y,hy,zZ b.name a.ino es,by rw[e1],fun e he=>?_⟩;rcases Yi he with rfl | he
  ·exact .inl ⟨rfl,hyb⟩
  ·exact .inr (e2 e he)
 ·obtain ⟨y,hy,es,e1,e2⟩:=g1 hz;exact ⟨y,hy,es,e1,fun e he=>.inr (e2 e he)⟩
theorem zeF {a b:zK} (ha:zx f a) (hb:JF f b) (m:Int):(zf m (qr b.dir (zZ b.name a.ino) (qr a.dir (zi a.name) f.xs))).kind=(zf m f.xs).kind/\(zf m (qr b.dir (zZ b.name a.ino) (qr a.dir (zi a.name) f.xs))).parent=(zf m f.xs).parent:=by
 have hb1:zk b.dir (qr a.dir (zi a.name) f.xs)=true:=by rw[zP ha.has];exact hb.has
 obtain ⟨q1,q2,_⟩:=jJ (m:=m) (F:=zZ b.name a.ino) hb1;obtain ⟨q3,q4,_⟩:=jJ (m:=m) (F:=zi a.name) ha.has;exact ⟨q1.trans q3,q2.trans q4⟩
theorem zau (hi:FsI f) (h:FsR f) {a:zK} (ha:zx f a) (hk:(zf a.ino f.xs).kind=2) {y:zo} (hy:y∈f.xs) {e:zS} (he:e∈y.es) (hn:y.ino=a.dir->e.name≠a.name):e.ino≠a.ino:=fun q=>by
 have hh:=zx.ino hi ha;have hx:=zj hh;have hd:=zj ha.has;have hl:=(h.node _ hx.2.1).one hk (by rw[hx.2.2];exact QF hi ha);have hlk:=hi.links _ hx.2.1;rw[hx.2.2,hl]at hlk;have hc:=Zp (m:=a.ino) (F:=zi a.name) hi.rises ha.has;have hw:Yc a.ino (zf a.dir f.xs)=Yc a.ino (qj (zf a.dir f.xs) (zi a.name (zf a.dir f.xs).es))+if a.ino=a.ino then 1 else 0:=QC (m:=a.ino) (i:=a.ino) (x:=zf a.dir f.xs) (hi.es (zf a.dir f.xs) hd.2.1) ha.there;rw[if_pos rfl]at hw;have h0:J5 a.ino (qr a.dir (zi a.name) f.xs)=0:=by omega
 by_cases hya:y.ino=a.dir
 ·have e1:y=zf a.dir f.xs:=yb hi.rises hy hd.2.1 (by rw[hd.2.2];exact hya);refine Vc h0 _ ((qF ha.has).2 (.inl rfl)) e ?_ q;exact ZE.2 ⟨by rw[←e1];exact he,hn hya⟩
 ·exact Vc h0 y ((qF ha.has).2 (.inr ⟨hy,hya⟩)) e he q
open Classical in
theorem zps (hi:FsI f) (h:FsR f) {a b:zK} (ha:zx f a) (hb:JF f b) (hm:may b.name=true) (hnb:(zf a.ino f.xs).kind=2->¬Bel f.xs a.ino b.dir):FsR (jN f a b):=by
 have hh:=zx.ino hi ha;have hx:=zj hh;have hr1:=QF hi ha;have hb1:zk b.dir (qr a.dir (zi a.name) f.xs)=true:=by rw[zP ha.has];exact hb.has
 have hR1:qc (qr a.dir (zi a.name) f.xs):=z8 hi.rises;have hR2:qc (qr b.dir (zZ b.name a.ino) (qr a.dir (zi a.name) f.xs)):=z8 hR1;have hlen:(qr b.dir (zZ b.name a.ino) (qr a.dir (zi a.name) f.xs)).length=f.xs.length:=by rw[jq hR1 hb1,jq hi.rises ha.has]
 have hbyt:ql (qr b.dir (zZ b.name a.ino) (qr a.dir (zi a.name) f.xs))=ql f.xs:=by rw[Xm hR1 hb1,Xm hi.rises ha.has]
 have hha:zk a.ino (qr b.dir (zZ b.name a.ino) (qr a.dir (zi a.name) f.xs))=true:=by rw[zP hb1,zP ha.has];exact hh
 have hgm:=zeF ha hb;have hmm:∀ {z:zo},z∈qr b.dir (zZ b.name a.ino) (qr a.dir (zi a.name) f.xs)->∃ y∈f.xs,∃ es,z=qj y es/\zr5 a b y es:=zoS hi ha hb;have hnode:∀ {y:zo} {es:List zS},y∈f.xs->zr5 a b y es->zlT (qj y es):=fun {y es} hy he=>(h.node y hy).turn fun e hee=>by
  rcases he e hee with ⟨rfl,_⟩ | ⟨q,_⟩
  ·exact hm
  ·exact (h.node y hy).nam e q
 unfold jN;simp only;generalize qr b.dir (zZ b.name a.ino) (qr a.dir (zi a.name) f.xs)=g at hR2 hlen hbyt hha hgm hmm;have hfit:=h.fit;by_cases hk:(zf a.ino f.xs).kind=2
 ·rw[if_pos (show (zf a.ino g).kind=2 from (hgm a.ino).1.trans hk)];have hnb:=hnb hk;have hxa:=zj hha;have hhi:zk ({ zf a.ino g with parent:=b.dir }:zo).ino g=true:=by show zk (zf a.ino g).ino g=true;rw[hxa.2.2];exact hha
  have hgot:∀ m,(zf m (qq { zf a.ino g with parent:=b.dir } g)).kind=(zf m f.xs).kind/\(zf m (qq { zf a.ino g with parent:=b.dir } g)).parent=if m=a.ino then b.dir else (zf m f.xs).parent:=fun m=>by
   simp only[qN,hxa.2.2];by_cases hq:a.ino=m
   ·rw[if_pos hq,if_pos hq.symm];subst hq;exact ⟨(hgm a.ino).1,rfl⟩
   ·rw[if_neg hq,if_neg (fun q=>hq q.symm)];exact hgm m
  have hmem:∀ {z:zo},z∈qq { zf a.ino g with parent:=b.dir } g->∃ y∈f.xs,∃ es,z.ino=y.ino/\z.es=es/\zr5 a b y es/\zlT z:=fun {z} hz=>by
   rcases qz.1 hz with rfl | ⟨hz,_⟩
   ·obtain ⟨y,hy,es,e1,e2⟩:=hmm hxa.2.1;refine ⟨y,hy,es,by rw[e1],by rw[e1],e2,?_⟩;have hn:=hnode hy e2;rw[←e1]at hn;have hka:(zf a.ino g).kind=2:=by rw[(hgm a.ino).1];exact hk
    exact ⟨fun q=>absurd hka q,hn.bare,hn.nam,hn.lnk,hn.named,hn.one,fun q=>by have q:(zf a.ino g).ino=1:=q;rw[hxa.2.2]at q;exact absurd q hr1⟩
   ·obtain ⟨y,hy,es,e1,e2⟩:=hmm hz;exact ⟨y,hy,es,by rw[e1],by rw[e1],e2,by rw[e1];exact hnode hy e2⟩
  obtain ⟨rk,hrk⟩:=h.edge;refine ⟨fun z hz=>(hmem hz).choose_spec.2.choose_spec.2.2.2,⟨fun n=>if Bel f.xs a.ino n then rk n+rk b.dir+1 else rk n,fun z hz e he hke=>?_⟩,?_,h.lim⟩
  ·obtain ⟨y,hy,es,e1,e2,e3,_⟩:=hmem hz;have hke:(zf e.ino (qq { zf a.ino g with parent:=b.dir } g)).kind=2:=hke;rw[(hgot _).1]at hke;show (zf e.ino (qq { zf a.ino g with parent:=b.dir } g)).parent=z.ino/\(if Bel f.xs a.ino z.ino then _ else _)<(if Bel f.xs a.ino e.ino then _ else _);rw[(hgot _).2,e1];rcases e3 e (by rw[←e2];exact he) with ⟨rfl,hyb⟩ | ⟨hey,hna⟩
   ·rw[hyb,if_neg hnb];show (if a.ino=a.ino then _ else _)=_/\_<(if Bel f.xs a.ino a.ino then rk a.ino+rk b.dir+1 else _);rw[if_pos rfl,if_pos Bel.refl];exact ⟨rfl,by omega⟩
   ·have hne:=zau hi h ha hk hy hey hna;obtain ⟨p1,p2⟩:=hrk y hy e hey hke;rw[if_neg hne];refine ⟨p1,?_⟩;have hs:=Xg hi hy;have hiff:Bel f.xs a.ino e.ino↔Bel f.xs a.ino y.ino:=by
     constructor
     ·intro hB;generalize hn:e.ino=n at hB;cases hB with
      | refl=>exact absurd hn hne
      | step hB1 hv hed =>
       rename_i y';obtain ⟨e',he',q⟩:=hed;have:=(hrk _ (zj hv).2.1 e' he' (by rw[q,←hn];exact hke)).1;rw[q,←hn,p1,(zj hv).2.2]at this;rw[this];exact hB1
     ·intro hB;exact .step hB (Ym hy) ⟨e,by rw[hs];exact hey,rfl⟩
    by_cases hB:Bel f.xs a.ino y.ino
    ·rw[if_pos hB,if_pos (hiff.2 hB)];omega
    ·rw[if_neg hB,if_neg (fun q=>hB (hiff.1 q))];exact p2
  ·have hb2:=Qu hR2 hhi;have e1:bN (zf ({ zf a.ino g with parent:=b.dir }:zo).ino g)=bN { zf a.ino g with parent:=b.dir }:=by
    show bN (zf (zf a.ino g).ino g)=_;rw[hxa.2.2];rfl
   rw[e1]at hb2;have hb3:=Nat.add_right_cancel hb2;show ((qq _ _).length:Int)<=f.maxI/\(ql (qq _ _):Int)<=f.maxB;rw[JQ hR2 hhi,hlen,hb3,hbyt];exact hfit
 ·rw[if_neg (show ¬(zf a.ino g).kind=2 from fun q=>hk ((hgm a.ino).1.symm.trans q))];refine h.like (fun z hz=>?_) (fun z hz e he hke=>?_) rfl rfl (by show g.length<=_;omega) (by show (ql g:Int)<=_;omega)
  ·obtain ⟨y,hy,es,rfl,e2⟩:=hmm hz;exact hnode hy e2
  ·obtain ⟨y,hy,es,rfl,e2⟩:=hmm hz;have hke:(zf e.ino g).kind=2:=hke;rw[(hgm _).1]at hke;rcases e2 e he with ⟨rfl,_⟩ | ⟨q,_⟩
   ·exact absurd hke hk
   ·exact ⟨y,hy,rfl,q,hke,(hgm _).2⟩
end
section
inductive Qb (xs:List zo):List Lz->Int->Prop
 | root:Qb xs [] 1
 | step {ns:List Lz} {y n:Int} {m:Lz}:Qb xs ns y->zk y xs=true->(zf y xs).kind=2->jk zS.name m (zf y xs).es=some ⟨m,n⟩->Qb xs (ns++[m]) n
theorem Qb.inv (h:Qb xs ns n):(ns = []/\n=1)∨∃ ms y m,ns=ms++[m]/\Qb xs ms y/\zk y xs=true/\(zf y xs).kind=2/\jk zS.name m (zf y xs).es=some ⟨m,n⟩:=by
 cases h with
 | root=>exact .inl ⟨rfl,rfl⟩
 | step h1 h2 h3 h4=>exact .inr ⟨_,_,_,rfl,h1,h2,h3,h4⟩
theorem Ms (hi:FsI f) (h:FsR f) {x y z:Int} {m k:Lz} (hx:(zf x f.xs).kind=2) (hy:zk y f.xs=true) (hyk:(zf y f.xs).kind=2) (h1:jk zS.name m (zf y f.xs).es=some ⟨m,x⟩) (hz:zk z f.xs=true) (h2:∃ e∈(zf z f.xs).es,e.name=k/\e.ino=x):z=y/\k=m:=by
 obtain ⟨e,he,rfl,q⟩:=h2;obtain ⟨rk,hr⟩:=h.edge;have gy:=zj hy;have gz:=zj hz;have p1:=(hr _ gy.2.1 ⟨m,x⟩ (zT h1).2 hx).1;have p2:=(hr _ gz.2.1 e he (by rw[q];exact hx)).1;rw[q,gz.2.2]at p2;rw[gy.2.2]at p1;have hzy:z=y:=p2.symm.trans p1;refine ⟨hzy,OU fun hne=>?_⟩;subst hzy;exact zau hi h (a:=⟨z,m,x⟩) ⟨hy,hyk,h1⟩ hx gy.2.1 he (fun _=>hne) q
theorem vf (hi:FsI f) {y:Int} (hy:zk y f.xs=true) {e:zS} (he:e∈(zf y f.xs).es):e.ino≠1:=Vc hi.bare _ (zj hy).2.1 e he
theorem Qb.one (hi:FsI f) (h:FsR f):∀ {ms ns:List Lz} {x:Int},Qb f.xs ms x->Qb f.xs ns x->(zf x f.xs).kind=2->ms=ns:=by
 intro ms ns x h1
 induction h1 generalizing ns with
 | root =>
  intro h2 hk;rcases h2.inv with ⟨e,_⟩ | ⟨ms,y,m,e,_,g1,g2,g3⟩
  ·exact e.symm
  ·exact absurd rfl (vf hi g1 (zT g3).2)
 | step a1 a2 a3 a4 ih =>
  intro h2 hk;rcases h2.inv with ⟨e,e1⟩ | ⟨ms,y,m,rfl,g0,g1,g2,g3⟩
  ·exact absurd e1 (vf hi a2 (zT a4).2)
  ·obtain ⟨rfl,rfl⟩:=Ms hi h hk a2 a3 a4 g1 ⟨_,(zT g3).2,rfl,rfl⟩;rw[ih g0 a3]
theorem Bel.lead (hi:FsI f) (h:FsR f) {x:Int} {ns:List Lz} (hn:Qb f.xs ns x):∀ {m:Int} {ms:List Lz},Bel f.xs x m->Qb f.xs ms m->(zf m f.xs).kind=2->∃ r,ms=ns++r:=by
 intro m ms hB
 induction hB generalizing ms with
 | refl=>intro h1 hk;exact ⟨[],by rw[W4];exact Qb.one hi h h1 hn hk⟩
 | step b1 b2 b3 ih =>
  intro h1 hk;obtain ⟨e,he,q⟩:=b3;rcases h1.inv with ⟨_,e1⟩ | ⟨ms',y',k,rfl,g0,g1,g2,g3⟩
  ·exact absurd (q.trans e1) (vf hi b2 he)
  ·obtain ⟨rfl,_⟩:=Ms hi h hk g1 g2 g3 b2 ⟨e,he,rfl,q⟩;obtain ⟨r,hr⟩:=ih g0 g2;exact ⟨r++[k],by rw[hr,WI]⟩
theorem Nd {f:FsV} (hi:FsI f):∀ (ns pre:List Lz) (s:zK),(s.ino≠0->Qb f.xs pre s.ino/\zk s.ino f.xs=true)->(atW f.xs ns s).2=0->ns≠[] ->
  ∃ ms,ns=ms++[(atW f.xs ns s).1.name]/\Qb f.xs (pre++ms) (atW f.xs ns s).1.dir
 | [],pre,s,_,_,h=>absurd rfl h
 | n :: r,pre,s,hs,h0,_=>by
  unfold atW at h0 ⊢;by_cases h1:s.ino=0
  ·rw[if_pos h1]at h0;cases h0
  rw[if_neg h1]at h0 ⊢;by_cases h2:(zf s.ino f.xs).kind≠2
  ·rw[if_pos h2]at h0;cases h0
  rw[if_neg h2]at h0 ⊢;have h2:(zf s.ino f.xs).kind=2:=Wy.1 h2;obtain ⟨g1,g2⟩:=hs h1;have hg:=zj g2;cases r with
  | nil =>
   unfold atW;refine ⟨[],rfl,?_⟩;rw[W4];show Qb f.xs pre (zf s.ino f.xs).ino;rw[hg.2.2];exact g1
  | cons m r =>
   obtain ⟨ms,e1,e2⟩:=Nd hi (m :: r) (pre++[n]) ⟨(zf s.ino f.xs).ino,n,zL n (zf s.ino f.xs).es⟩ (fun hne=>by
    have hne:zL n (zf s.ino f.xs).es≠0:=hne;have hh:Yo n (zf s.ino f.xs).es=true:=by
     unfold Yo;rw[qC];cases hq:jk zS.name n (zf s.ino f.xs).es with
     | some e=>rfl
     | none=>unfold zL at hne;rw[hq]at hne;exact absurd rfl hne
    exact ⟨.step g1 g2 h2 (YU hh),Qf hi g2 hh⟩) h0 (by simp)
   refine ⟨n :: ms,by rw[Oh,←e1],?_⟩;rw[WI]at e2;exact e2
theorem zg8 (hi:FsI f) (h:FsR f) {p q:Lz} (hp:qG p=true) (hq:qG q=true) (h1:(isV f p true).2.2=0) (h2:(isV f q false).2.2=0) (hu:YQ q p=false) (hk:(zf (isV f p true).1.ino f.xs).kind=2):¬Bel f.xs (isV f p true).1.ino (isV f q false).1.dir:=fun hB=>by
 have hta:=(j5 hi hp h1).1;have hfb:=Yw hi hq h2;unfold qG at hp hq;simp only[Wt,AE,Ou]at hp hq;have root:(1:Int)≠0->Qb f.xs [] 1/\zk 1 f.xs=true:=fun _=>⟨.root,hi.root⟩;have ea:(isV f p true).1=(atW f.xs (zn p) ⟨0,[],1⟩).1:=by show (atV f p).1=_;unfold atV;rw[if_pos hp.1]
 have eb:(isV f q false).1=(atW f.xs (zn q) ⟨0,[],1⟩).1:=by show (atV f q).1=_;unfold atV;rw[if_pos hq.1]
 have za:(atW f.xs (zn p) ⟨0,[],1⟩).2=0:=by have:=VI h1;unfold atV at this;rwa [if_pos hp.1]at this
 have zb:(atW f.xs (zn q) ⟨0,[],1⟩).2=0:=by have:=VI h2;unfold atV at this;rwa [if_pos hq.1]at this
 obtain ⟨ma,a1,a2⟩:=Nd hi (zn p) [] ⟨0,[],1⟩ root za hp.2;obtain ⟨mb,b1,b2⟩:=Nd hi (zn q) [] ⟨0,[],1⟩ root zb hq.2;rw[←ea]at a1 a2;rw[←eb]at b1 b2;have la:Qb f.xs (zn p) (isV f p true).1.ino:=by
  rw[a1];exact .step a2 hta.has hta.kind hta.there
 obtain ⟨r,hr⟩:=Bel.lead hi h la hB b2 hfb.kind;have hr:mb=zn p++r:=hr;have hn:zn q=zn p++(r++[(isV f q false).1.name]):=by rw[b1,hr,WI]
 have hu2:=Zk (zn q) (zn p) (fun x hx=>M9 hx) (fun x hx=>M9 hx);rw[He hp.1,He hq.1,hu,hn,OI  rfl]at hu2;simp at hu2
end
section
structure vR (w:qV):Prop where
 fs:FsR w.fs
 pool:∀ x∈w.pool,qJ w x
 slots:∀ k∈w.kept,1<=k.slot
 kept:∀ k∈w.kept,XX w k
theorem zsc (h:okW w):vR w:=⟨zgq (okV.m ⟨h.1.2.1,h.2.1⟩),h.2.2.2.1,h.2.2.2.2.1.2,h.2.2.2.2.2⟩
theorem zs5 (h:vR w) {g:FsV} (hg:FsR g) (hn:w.fs.next<=g.next) (hp:∀ x∈w.pool,zk x.ino g.xs=false) (hk:∀ m,zk m w.fs.xs=true->zk m g.xs=true/\(zf m g.xs).kind=(zf m w.fs.xs).kind):vR { w with fs:=g }:=by
 refine ⟨hg,fun x hx=>?_,h.slots,fun k hkk=>?_⟩
 ·obtain ⟨q1,q2,q3,q4⟩:=h.pool x hx;exact ⟨hp x hx,q2,by show x.ino<g.next;omega,q4⟩
 ·obtain ⟨q1,q2,q3,q4⟩:=h.kept k hkk;refine ⟨q1,q2.imp (fun q=>(hk _ q).1) id,fun hc=>?_,q4⟩;have:=q3 hc;show (if zk k.ino w.pool=true then zf k.ino w.pool else zf k.ino g.xs).kind=1;by_cases hq:zk k.ino w.pool=true
  ·rw[if_pos hq]at this ⊢;exact this
  ·rw[if_neg hq]at this ⊢;rw[(hk _ (q2.resolve_right hq)).2];exact this
theorem zgr (hi:UE w) (h:vR w) {p:Lz} (hp:qG p=true) {k:Int} (hk:k=1∨k=2∨k=3) {t:Lz} (h2:k=2->t = []) (h3:k=3->1<=t.length/\t.length<=4095/\∀ b∈t,b≠0):vR (VD w p k t).1:=by
 unfold VD;by_cases hz:(isV w.fs p false).2.2≠0
 ·rw[if_pos hz];exact h
 rw[if_neg hz];have hs:=Yw hi.fs hp (Wy.1 hz);obtain ⟨n1,n2⟩:=NQ hi.fs;show vR { w with fs:=(zdX w.fs (isV w.fs p false).1 k t).1 };unfold zdX;by_cases hm:may (isV w.fs p false).1.name=true
 case neg=>rw[if_neg hm];exact h
 rw[if_pos hm];by_cases hr:Vi w.fs 1 (if k=1 then (t.length:Int) else 0)=true
 case neg=>rw[if_neg hr];exact h
 rw[if_pos hr];have hhas:∀ m,zk m (zdR w.fs (isV w.fs p false).1 k t).xs=(decide (w.fs.next=m)||zk m w.fs.xs):=fun m=>by
  show zk m (qq _ _)=_;rw[ja,zP hs.has]
 refine zs5 h (zpW hi.fs h.fs hs hm hk hr h2 h3) (by show w.fs.next<=w.fs.next+1;omega) (fun x hx=>?_) (fun m hh=>⟨by rw[hhas,hh,BD],?_⟩)
 ·rw[hhas,(hi.apart x hx).1,AS];exact Wk (by have:=(hi.apart x hx).2;omega)
 ·have hne:w.fs.next≠m:=fun e=>by rw[←e,n1]at hh;cases hh
  show (zf m (qq _ _)).kind=_;rw[qN,if_neg hne];exact (jJ hs.has).1
theorem Ju {k z:zY} {ks:List zY}:z∈qL k ks↔z=k∨z∈ks:=QW
theorem Ht {w':qV} {x:zo} (h:qJ w x) (h1:zk x.ino w'.fs.xs=false) (h2:w.fs.next<=w'.fs.next) (h3:∀ k∈w.kept,k∈w'.kept):qJ w' x:=by
 obtain ⟨q1,q2,q3,q4,q5,q6,q7,q8,q9,q10⟩:=h;refine ⟨h1,q2,by omega,q4,q5,q6,q7,q8,q9,?_⟩;rw[Oq]at q10 ⊢;obtain ⟨k,hk,e⟩:=q10;exact ⟨k,h3 k hk,e⟩
theorem zru (hi:UE w) (h:vR w) {n:Int} (h1:1<=n) (h2:n<=1073741824) {s:zK} (hs:zx w.fs s) (he:(zf s.ino w.fs.xs).es = []):vR (Xp w n s).1:=by
 have hI:=zhE hi (n:=n) hs he;unfold Xp at hI ⊢;cases hn:yL n w.kept with
 | true=>rw[if_pos rfl];exact h
 | false =>
  rw[hn,if_neg (by simp)]at hI;rw[if_neg (by simp)];have hh:=zx.ino hi.fs hs;have hx:=zj hh;have hnd:=h.fs.node _ hx.2.1;have hr:=zlh hi.fs h.fs hs he;have hhas:=QT hs.has hh;have hnp:zk s.ino w.pool=false:=by
   rw[Oo];intro hq;have:=(hi.apart _ (zj hq).2.1).1;rw[(zj hq).2.2,hh]at this;cases this
  have hgk:∀ m,zk m (zl w.fs s).xs=true->(zf m (zl w.fs s).xs).kind=(zf m w.fs.xs).kind:=fun m hm=>by
   unfold zl at hm ⊢;by_cases hl:(zf s.ino w.fs.xs).links-1=0
   ·rw[if_pos hl]at hm ⊢;have hm:zk m (qf _ _)=true:=hm;show (zf m (qf _ _)).kind=_;rw[Xu]at hm;rw[ZP,if_neg (fun e=>by rw[e]at hm;simp at hm)];exact (jJ hs.has).1
   ·rw[if_neg hl];show (zf m (qq _ _)).kind=_;rw[qN];split
    ·rename_i e;have e:(zf s.ino w.fs.xs).ino=m:=e;rw[hx.2.2]at e;subst e;rfl
    ·exact (jJ hs.has).1
  by_cases hl:(zf s.ino w.fs.xs).links=1
  ·rw[if_pos hl]at hI ⊢;have hhp:∀ m,zk m (qq { zf s.ino w.fs.xs with links:=0,parent:=0 } w.pool)=(decide (s.ino=m)||zk m w.pool):=fun m=>by
    rw[ja];show (decide ((zf s.ino w.fs.xs).ino=m)||_)=_;rw[hx.2.2]
   refine ⟨hr,fun x hxx=>?_,fun k hk=>?_,fun k hk=>?_⟩
   ·have ha:=(hI.apart x hxx).1;rcases qz.1 hxx with rfl | ⟨hxp,_⟩
    ·have hir:=hi.fs.ino _ hx.2.1;refine ⟨ha,hir.1,by show _<(zl w.fs s).next;rw[Yx];exact hir.2,rfl,rfl,he,hi.fs.kind (zf s.ino w.fs.xs) hx.2.1,hnd.bare,hnd.lnk,?_⟩;rw[Oq];refine ⟨_,Ju.2 (.inl rfl),?_⟩;show (decide (s.ino=(zf s.ino w.fs.xs).ino)&&!false)=true;rw[hx.2.2];simp
    ·exact Ht (h.pool x hxp) ha (by show w.fs.next<=(zl w.fs s).next;rw[Yx];exact Af _) fun k hk=>Ju.2 (.inr hk)
   ·rcases Ju.1 hk with rfl | hk
    ·exact h1
    ·exact h.slots k hk
   ·rcases Ju.1 hk with rfl | hk
    ·exact ⟨h2,.inr (by show zk s.ino _=true;rw[hhp];simp),fun q=>(by cases q),fun _=>rfl⟩
    ·obtain ⟨q1,q2,q3,q4⟩:=h.kept k hk;refine ⟨q1,?_,fun hc=>?_,q4⟩
     ·show zk k.ino (zl w.fs s).xs=true∨zk k.ino _=true;rw[hhp,hhas,if_pos (by omega)];by_cases e:k.ino=s.ino
      ·right;rw[e];simp
      ·rcases q2 with q2 | q2
       ·left;rw[q2,Wk e];rfl
       ·right;rw[q2,BD]
     ·have:=q3 hc;show (if zk k.ino _=true then zf k.ino _ else zf k.ino (zl w.fs s).xs).kind=1;by_cases e:s.ino=k.ino
      ·rw[if_pos (by rw[hhp,Wm e];rfl),qN,if_pos (by rw[←e];exact hx.2.2)];rw[←e,hnp,if_neg (by simp)]at this;exact this
      ·rw[hhp,Wk e,O7];have e5:zf k.ino (qq { zf s.ino w.fs.xs with links:=0,parent:=0 } w.pool)=zf k.ino w.pool:=by
        rw[qN];exact if_neg fun q=>e (hx.2.2.symm.trans q)
       rw[e5];by_cases hq:zk k.ino w.pool=true
       ·rw[if_pos hq]at this ⊢;exact this
       ·rw[if_neg hq]at this ⊢;have q5:=q2.resolve_right hq;rw[hgk _ (by rw[hhas,if_pos (by omega),q5,Wk (fun q=>e q.symm)];rfl)];exact this
  ·rw[if_neg hl]at hI ⊢;have hall:∀ m,zk m (zl w.fs s).xs=zk m w.fs.xs:=fun m=>by rw[hhas,if_neg (by omega)]
   refine ⟨hr,fun x hxx=>?_,fun k hk=>?_,fun k hk=>?_⟩
   ·exact Ht (h.pool x hxx) (hI.apart x hxx).1 (by show w.fs.next<=(zl w.fs s).next;rw[Yx];exact Af _) fun k hk=>Ju.2 (.inr hk)
   ·rcases Ju.1 hk with rfl | hk
    ·exact h1
    ·exact h.slots k hk
   ·rcases Ju.1 hk with rfl | hk
    ·exact ⟨h2,.inl (by show zk s.ino (zl w.fs s).xs=true;rw[hall];exact hh),fun q=>(by cases q),fun _=>rfl⟩
    ·obtain ⟨q1,q2,q3,q4⟩:=h.kept k hk;refine ⟨q1,?_,fun hc=>?_,q4⟩
     ·show zk k.ino (zl w.fs s).xs=true∨_;rw[hall];exact q2
     ·have:=q3 hc;show (if zk k.ino w.pool=true then zf k.ino w.pool else zf k.ino (zl w.fs s).xs).kind=1;by_cases hq:zk k.ino w.pool=true
      ·rw[if_pos hq]at this ⊢;exact this
      ·rw[if_neg hq]at this ⊢;rw[hgk _ (by rw[hall];exact q2.resolve_right hq)];exact this
theorem zji {i:Int} {t:Lz} (hh:zk i f.xs=true) (m:Int):zk m (X8 f i t).xs=zk m f.xs/\(zf m (X8 f i t).xs).kind=(zf m f.xs).kind:=by
 have hx:=zj hh;constructor
 ·show zk m (qq _ _)=_;rw[ja];show (decide ((zf i f.xs).ino=m)||_)=_;rw[hx.2.2];by_cases e:i=m
  ·subst e;rw[hh];simp
  ·simp[e]
 ·show (zf m (qq _ _)).kind=_;rw[qN];split
  ·rename_i e;have e:(zf i f.xs).ino=m:=e;rw[hx.2.2]at e;subst e;rfl
  ·rfl
theorem zft (hi:UE w) (h:vR w) {o:OpV} (ha:qG o.a=true) (hb:qG o.b=true) (h1:1<=o.slot) (h2:o.slot<=1073741824):vR (QV w o).1:=by
 unfold QV;by_cases z1:(js w.fs o.a).2≠0
 ·rw[if_pos z1];exact h
 rw[if_neg z1];by_cases z2:(js w.fs o.b).2≠0
 ·rw[if_pos z2];exact h
 rw[if_neg z2];by_cases z3:(js w.fs o.a).1.ino=(js w.fs o.b).1.ino
 ·rw[if_pos z3];exact h
 rw[if_neg z3];by_cases z4:(JU w o.slot (js w.fs o.b).1.ino).2≠0
 ·rw[if_pos z4];exact h
 rw[if_neg z4];by_cases z5:(kr w.fs (js w.fs o.b).1.ino (js w.fs o.a).1.data).2≠0
 ·rw[if_pos z5];exact h
 rw[if_neg z5];obtain ⟨f1,f2,f3⟩:=kA hi.fs hb (Wy.1 z2);generalize (js w.fs o.b).1.ino=i at *;generalize (js w.fs o.a).1.data=t at *;have hk1:(zf i w.fs.xs).kind=1:=by rw[←f3];exact f2
 have hnp:zk i w.pool=false:=by
  rw[Oo];intro hq;have:=(hi.apart _ (zj hq).2.1).1;rw[(zj hq).2.2,f1]at this;cases this
 have e1:(JU w o.slot i).1 = { w with kept:=qL ⟨o.slot,i,true,(zf i w.fs.xs).data⟩ w.kept }:=by
  unfold JU at z4 ⊢;split
  ·rename_i hq;rw[if_pos hq]at z4;exact absurd (show (13:Int)≠0 by decide) z4
  ·rfl
 have hr:Vi w.fs 0 ((t.length:Int)-(zf i w.fs.xs).data.length)=true:=by
  unfold kr at z5;cases hq:Vi w.fs 0 ((t.length:Int)-(zf i w.fs.xs).data.length) with
  | true=>rfl
  | false=>rw[hq,if_neg (by simp)]at z5;exact absurd (show (8:Int)≠0 by decide) z5
 have e2:(kr w.fs i t).1=X8 w.fs i t:=by unfold kr;rw[if_pos hr]
 rw[e1,e2];show vR ⟨X8 w.fs i t,qL ⟨o.slot,i,true,(zf i w.fs.xs).data⟩ w.kept,w.pool⟩;have hg:=zji (t:=t) f1;refine ⟨zqM hi.fs h.fs f1 hk1 hr,fun x hx=>?_,fun k hk=>?_,fun k hk=>?_⟩
 ·exact Ht (h.pool x hx) (by show zk x.ino (X8 w.fs i t).xs=false;rw[(hg _).1];exact (hi.apart x hx).1) (Af _) fun k hk=>Ju.2 (.inr hk)
 ·rcases Ju.1 hk with rfl | hk
  ·exact h1
  ·exact h.slots k hk
 ·rcases Ju.1 hk with rfl | hk
  ·refine ⟨h2,.inl (by show zk i (X8 w.fs i t).xs=true;rw[(hg _).1];exact f1),fun _=>?_,fun q=>(by cases q)⟩;show (if zk i w.pool=true then zf i w.pool else zf i (X8 w.fs i t).xs).kind=1;rw[hnp,if_neg (by simp),(hg i).2];exact hk1
  ·obtain ⟨q1,q2,q3,q4⟩:=h.kept k hk;refine ⟨q1,?_,fun hc=>?_,q4⟩
   ·show zk k.ino (X8 w.fs i t).xs=true∨_;rw[(hg _).1];exact q2
   ·have:=q3 hc;show (if zk k.ino w.pool=true then zf k.ino w.pool else zf k.ino (X8 w.fs i t).xs).kind=1;by_cases hq:zk k.ino w.pool=true
    ·rw[if_pos hq]at this ⊢;exact this
    ·rw[if_neg hq]at this ⊢;rw[(hg _).2];exact this
end
section
theorem zmd (hf:FsI f) {p:Lz} (hp:qG p=true) {b:Bool} (h:(isV f p b).2.2=0):may (isV f p b).1.name=true:=by
 have h1:=(zkP hf hp (VI h)).2.2.2;unfold qG JY at hp;simp only[Wt]at hp;exact WE.1 hp.1.2 _ h1
theorem zk3 {o:OpV} (h:HO o=true):(Vu o.kind=true->1<=o.slot/\o.slot<=1073741824)/\(o.kind=4->QB o.d=true)/\(o.kind=6->YQ o.b o.a=false):=by
 unfold HO at h;simp only[Wt,W6]at h;obtain ⟨⟨⟨⟨⟨⟨h1,h2⟩,h3⟩,h4⟩,h5⟩,h6⟩,h7⟩:=h;refine ⟨fun q=>?_,fun q=>?_,fun q=>?_⟩
 ·rw[if_pos q]at h4;simpa using h4
 ·rw[if_pos q]at h6;exact h6
 ·rw[Wm q]at h7;simp at h7;exact h7.2
theorem zew {t:Lz} (h:QB t=true):1<=t.length/\t.length<=4095/\∀ b∈t,b≠0:=by
 unfold QB at h;simp only[Wt,AE,Ou,W6]at h;obtain ⟨⟨h1,h2⟩,h3⟩:=h;refine ⟨WB.2 h1,h2,fun b hb e=>?_⟩;rw[Og]at h3;exact h3 b hb (by simpa using e)
theorem zlt {s:zK} (hs:JF f s) {i:Int} (hh:zk i f.xs=true) (m:Int):zk m (kC f s i).xs=zk m f.xs/\(zf m (kC f s i).xs).kind=(zf m f.xs).kind:=by
 have hx:=zj hh;constructor
 ·show zk m (qq _ _)=_;rw[ja,zP hs.has];show (decide ((zf i f.xs).ino=m)||_)=_;rw[hx.2.2];by_cases e:i=m
  ·subst e;rw[hh];simp
  ·simp[e]
 ·show (zf m (qq _ _)).kind=_;rw[qN];split
  ·rename_i e;have e:(zf i f.xs).ino=m:=e;rw[hx.2.2]at e;subst e;rfl
  ·exact (jJ hs.has).1
theorem zkC (hi:FsI f) {a b:zK} (ha:zx f a) (hb:JF f b) (m:Int):zk m (jN f a b).xs=zk m f.xs/\(zf m (jN f a b).xs).kind=(zf m f.xs).kind:=by
 have hb1:zk b.dir (qr a.dir (zi a.name) f.xs)=true:=by rw[zP ha.has];exact hb.has
 have hh:∀ m,zk m (qr b.dir (zZ b.name a.ino) (qr a.dir (zi a.name) f.xs))=zk m f.xs:=fun m=>by rw[zP hb1,zP ha.has]
 have hg:=zeF ha hb;unfold jN;simp only;generalize qr b.dir (zZ b.name a.ino) (qr a.dir (zi a.name) f.xs)=g at hh hg;split
 ·have hx:=zj (show zk a.ino g=true by rw[hh];exact zx.ino hi ha);constructor
  ·show zk m (qq _ _)=_;rw[ja];show (decide ((zf a.ino g).ino=m)||_)=_;rw[hx.2.2,hh];by_cases e:a.ino=m
   ·subst e;rw[zx.ino hi ha];simp
   ·simp[e]
  ·show (zf m (qq _ _)).kind=_;rw[qN];split
   ·rename_i e;have e:(zf a.ino g).ino=m:=e;rw[hx.2.2]at e;subst e;exact (hg _).1
   ·exact (hg m).1
 ·exact ⟨hh m,(hg m).1⟩
theorem zt2 (hi:UE w) (h:vR w) (o:OpV) (hk7:o.kind<=7):vR (doV w o).1:=by
 unfold doV;cases hm:HO o with
 | false=>exact h
 | true =>
  obtain ⟨p1,p2,k1,_⟩:=Xj hm;obtain ⟨m1,m2,m3⟩:=zk3 hm;rw[if_neg (by simp)];by_cases h1:o.kind=1
  ·rw[if_pos h1];exact zgr hi h p1 (.inr (.inl rfl)) (fun _=>rfl) (fun q=>by cases q)
  rw[if_neg h1];by_cases h2:o.kind=2
  ·rw[if_pos h2];unfold Vs;split
   ·exact h
   ·exact zgr hi h (p2 (by rw[h2];rfl)) (.inl rfl) (fun q=>by cases q) (fun q=>by cases q)
  rw[if_neg h2];by_cases h3:o.kind=3
  ·rw[if_pos h3];obtain ⟨q1,q2⟩:=m1 (by rw[h3];rfl);exact zft hi h p1 (p2 (by rw[h3];rfl)) q1 q2
  rw[if_neg h3];by_cases h4:o.kind=4
  ·rw[if_pos h4];exact zgr hi h p1 (.inr (.inr rfl)) (fun q=>by cases q) (fun _=>zew (m2 h4))
  rw[if_neg h4];by_cases h5:o.kind=5
  ·rw[if_pos h5];have pb:=p2 (by rw[h5];rfl);unfold VK;simp only;by_cases z1:(isV w.fs o.a true).2.2≠0
   ·rw[if_pos z1];exact h
   rw[if_neg z1];obtain ⟨ht,hn⟩:=j5 hi.fs p1 (Wy.1 z1);by_cases z2:(isV w.fs o.a true).2.1.kind=2
   ·rw[if_pos z2];exact h
   rw[if_neg z2];by_cases z3:(isV w.fs o.b false).2.2≠0
   ·rw[if_pos z3];exact h
   rw[if_neg z3];have z3:=Wy.1 z3;have hf:=Yw hi.fs pb z3;have hh:=zx.ino hi.fs ht;rw[hn]at z2 ⊢;rw[(zj hh).2.2];have hg:=zlt hf hh;exact zs5 h (zpU hi.fs h.fs hf (zmd hi.fs pb z3) hh z2) (Af _) (fun x hx=>by rw[(hg _).1];exact (hi.apart x hx).1) fun m hmm=>⟨by rw[(hg _).1];exact hmm,(hg _).2⟩
  rw[if_neg h5];by_cases h6:o.kind=6
  ·rw[if_pos h6];have pb:=p2 (by rw[h6];rfl);unfold JV;by_cases z1:(isV w.fs o.a true).2.2≠0
   ·rw[if_pos z1];exact h
   rw[if_neg z1];by_cases z3:(isV w.fs o.b false).2.2≠0
   ·rw[if_pos z3];exact h
   rw[if_neg z3];have z1:=Wy.1 z1;have z3:=Wy.1 z3;have ht:=(j5 hi.fs p1 z1).1;have hf:=Yw hi.fs pb z3;have hg:=zkC hi.fs ht hf;refine zs5 h (zps hi.fs h.fs ht hf (zmd hi.fs pb z3) fun hk=>zg8 hi.fs h.fs p1 pb z1 z3 (m3 h6) hk) ?_ (fun x hx=>by rw[(hg _).1];exact (hi.apart x hx).1) fun m hmm=>⟨by rw[(hg _).1];exact hmm,(hg _).2⟩;unfold jN;simp only;split<;>exact Af _
  rw[if_neg h6];have h7:o.kind=7:=by omega
  obtain ⟨q1,q2⟩:=m1 (by rw[h7];rfl);unfold qW;simp only;by_cases z1:(isV w.fs o.a true).2.2≠0
  ·rw[if_pos z1];exact h
  rw[if_neg z1];obtain ⟨ht,hn⟩:=j5 hi.fs p1 (Wy.1 z1);by_cases z2:(isV w.fs o.a true).2.1.es≠[]
  ·rw[if_pos z2];exact h
  rw[if_neg z2];exact zru hi h q1 q2 ht (by rw[←hn];exact Wy.1 z2)
theorem HC (w:qV) (p:Lz) (k:Int) (t:Lz):(VD w p k t).1.fs.next<=w.fs.next+1:=by
 unfold VD;split
 ·show w.fs.next<=_;omega
 ·show (zdX w.fs (isV w.fs p false).1 k t).1.next<=_;rcases QR w.fs (isV w.fs p false).1 k t with e | e
  ·rw[e];omega
  ·rw[e];exact Af _
theorem znj (w:qV) (o:OpV):(doV w o).1.fs.next<=w.fs.next+1:=by
 have h0:w.fs.next<=w.fs.next+1:=by omega
 unfold doV;split
 ·exact h0
 split
 ·exact HC ..
 split
 ·unfold Vs;split
  ·exact h0
  ·exact HC ..
 split
 ·unfold QV;split
  ·exact h0
  split
  ·exact h0
  split
  ·exact h0
  split
  ·exact h0
  split
  ·exact h0
  ·show (kr w.fs _ _).1.next<=_;unfold kr;split<;>exact h0
 split
 ·exact HC ..
 split
 ·unfold VK;simp only;split
  ·exact h0
  split
  ·exact h0
  split
  ·exact h0
  ·exact h0
 split
 ·unfold JV;split
  ·exact h0
  split
  ·exact h0
  ·show (jN w.fs _ _).next<=_;unfold jN;simp only;split<;>exact h0
 ·unfold qW;simp only;split
  ·exact h0
  split
  ·exact h0
  ·unfold Xp;split
   ·exact h0
   ·show (zl w.fs _).next<=_;rw[Yx];exact h0
end
section
inductive zjl (w:qV):List OpV->qV->Prop
 | nil:zjl w [] w
 | snoc {l:List OpV} {v:qV} {o:OpV}:zjl w l v->(doV v o).2=0->zjl w (l++[o]) (doV v o).1
structure zuK (w:qV) (d:zW):Prop where
 run:zjl w d.ops d.w
 may:∀ o∈d.ops,HO o=true/\o.kind<=7
 rise:(zlI d.ops).Pairwise (· < ·)
 over:∀ s∈zlI d.ops,Jd w.kept<s/\s<=d.slot
 last:Jd w.kept<=d.slot
 stat:(d.status=1)↔d.diags≠[]
 right:vR d.w
end
section
theorem zgH (hi:FsI f) {ns:List Lz} {y:Int} (h:Qb f.xs ns y):∃ d nm,∀ r,atW f.xs (ns++r) ⟨0,[],1⟩=atW f.xs r ⟨d,nm,y⟩:=by
 induction h with
 | root=>exact ⟨0,[],fun r=>rfl⟩
 | step h1 h2 h3 h4 ih =>
  rename_i ns y n m;obtain ⟨d,nm,ih⟩:=ih;refine ⟨y,m,fun r=>?_⟩;rw[WI,ih];show atW f.xs (m :: r) ⟨d,nm,y⟩=_;have hne:y≠0:=Xq hi h2;have e1:(zf y f.xs).ino=y:=(zj h2).2.2;have e2:zL m (zf y f.xs).es=n:=by unfold zL;rw[h4]
  rw[atW,if_neg hne,if_neg (fun q=>q h3),e1,e2]
theorem Mx {f:FsV} (h:okM f):∀ (m:Nat) (n:Int) (ns:List Lz),Qb f.xs ns n->∀ p∈jj f.xs m n ns,Qb f.xs p.1 p.2.ino
 | 0,n,ns,hl,p,hp=>by unfold jj at hp;cases hp
 | m+1,n,ns,hl,p,hp=>by
  unfold jj at hp;split at hp
  ·rename_i hh;rcases WK.1 hp with rfl | hp
   ·show Qb f.xs ns (zf n f.xs).ino;rw[(zj hh).2.2];exact hl
   ·obtain ⟨e,he,hp⟩:=Ay.1 hp;have hi:=ZF h.2;refine Mx h m e.ino _ (.step hl hh (Hl h hh he) ?_) p hp;have hR:=hi.es _ (zj hh).2.1;have hx:Yo e.name (zf n f.xs).es=true:=by
     unfold Yo Ya;rw[Oq];exact ⟨e,he,by simp⟩
    have h2:=YU hx;have h3:=zT h2;have:(⟨e.name,zL e.name (zf n f.xs).es⟩:zS)=e:=by
     obtain ⟨i,hi',ei⟩:=WH h3.2;obtain ⟨j,hj',ej⟩:=WH he;have hp:=WV.1 hR;rcases Ar i j with q | q | q
     ·have:=hp i j hi' hj' q;rw[ei,ej]at this;exact absurd this (by show ¬Op.bytesLess e.name e.name=true;rw[Qw];simp)
     ·subst q;rw[←ei,ej]
     ·have:=hp j i hj' hi' q;rw[ei,ej]at this;exact absurd this (by show ¬Op.bytesLess e.name e.name=true;rw[Qw];simp)
    rw[h2];have e2:zL e.name (zf n f.xs).es=e.ino:=WA zS.ino this;rw[e2]
  ·cases hp
theorem UX (h:okM f) {n:Int} (hh:zk n f.xs=true) (hk:(zf n f.xs).kind=2):∃ ns,(∀ z∈ns,may z=true)/\k9 n (trV f.xs 1 [])=some (qy ns)/\Qb f.xs ns n:=by
 obtain ⟨h0,h1,_⟩:=qU h;have hkk:∀ p∈trV f.xs 1 [],p.2.ino=n->p.2.kind=2:=fun p hp hpn=>by
  obtain ⟨_,q⟩:=Hm hp;rw[hpn]at q;rw[←q];exact hk
 obtain ⟨p,hp⟩:=UP (Xk h _ 1 [] h1.2.2.2.2.2.2.2.1) hkk (zfR h hh);obtain ⟨q,q1,q2⟩:=yg h hh hk;have hq:Zh n (trV f.xs 1 []) = [qy p.1]:=by unfold Zh;rw[hp];rfl
 rw[hq]at q1;have hqe:qy p.1=q:=by simpa using q1
 have hpf:p∈(trV f.xs 1 []).filter (fun p=>decide (p.2.ino=n)):=by rw[hp];exact W3.2 rfl
 obtain ⟨hpm,hpn⟩:=Oy.1 hpf;obtain ⟨zs,z1,z2⟩:=NI (kx h).1 _ 1 [] p hpm;rw[Ox]at z1;rw[←z1]at z2;have hl:=Mx h _ 1 [] .root p hpm;have hpn:p.2.ino=n:=by simpa using hpn
 rw[hpn]at hl;exact ⟨p.1,z2,by rw[q2,hqe],hl⟩
theorem uY (hi:FsI f) {ns:List Lz} {n:Int} (hl:Qb f.xs ns n) (hh:zk n f.xs=true) (hk:(zf n f.xs).kind=2) (hn:∀ z∈ns,may z=true) {m:Lz} (hm:may m=true):qG (qy (ns++[m]))=true/\atV f (qy (ns++[m]))=(⟨n,m,zL m (zf n f.xs).es⟩,0):=by
 have hall:∀ z∈ns++[m],may z=true:=fun z hz=>by
  rcases WF.1 hz with hz | hz
  ·exact hn z hz
  ·rw[W3.1 hz];exact hm
 have hnm:=XP (ns++[m]) fun z hz=>JR (hall z hz);have hp:JY (qy (ns++[m]))=true:=by
  unfold JY;rw[hnm,Wm rfl,Ok,WE];exact hall
 refine ⟨by unfold qG;rw[hp,hnm];simp,?_⟩;unfold atV;rw[if_pos hp,hnm];obtain ⟨d,nm,hw⟩:=zgH hi hl;rw[hw];have hne:n≠0:=Xq hi hh;rw[atW,if_neg hne,if_neg (fun q=>q hk),(zj hh).2.2]
 rfl
theorem Qm (h:okM f) {s:zK} (hh:zk s.dir f.xs=true) (hk:(zf s.dir f.xs).kind=2) (hm:may s.name=true):qG (zX f s)=true/\atV f (zX f s)=(⟨s.dir,s.name,zL s.name (zf s.dir f.xs).es⟩,0):=by
 obtain ⟨ns,n1,n2,n3⟩:=UX h hh hk;have e:zX f s=qy (ns++[s.name]):=by
  unfold zX;rw[n2,WO,QO ns s.name fun y hy=>(JR (n1 y hy)).1]
 rw[e];exact uY (ZF h.2) n3 hh hk n1 hm
end
section
abbrev Xe:=List Lz
def onL (f:FsV) (follow:Bool) (lk:zo->zo->Xe->Bool->zK×Int):Xe->zK->Bool->zK×Int
 | [],s,dir=>if zk s.ino f.xs=true/\dir=true/\(zf s.ino f.xs).kind≠2 then (qu,3) else (s,0)
 | n :: r,s,dir =>
  if s.ino=0 then (qu,1)
  else if (zf s.ino f.xs).kind≠2 then (qu,3)
  else if n = [46] then onL f follow lk r ⟨0,[],(zf s.ino f.xs).ino⟩ dir
  else if n = [46,46] then onL f follow lk r ⟨0,[],(zf s.ino f.xs).parent⟩ dir
  else if Yo n (zf s.ino f.xs).es=false∨(zf (zL n (zf s.ino f.xs).es) f.xs).kind≠3∨(r = []/\follow=false/\dir=false) then
   onL f follow lk r ⟨(zf s.ino f.xs).ino,n,zL n (zf s.ino f.xs).es⟩ dir
  else lk (zf (zL n (zf s.ino f.xs).es) f.xs) (zf s.ino f.xs) r dir
def qI (p:Lz):Bool:=!decide (zn p = [])&&Lib.hasSuffix p [47]
def kI (p:Lz):Bool:=Lib.hasPrefix p [47]
def onN (f:FsV) (follow:Bool):Nat->Xe->zK->Bool->zK×Int
 | 0=>onL f follow fun _ _ _ _=>(qu,6)
 | k+1=>onL f follow fun x d r dir=>if X7 x.data then (qu,7) else onN f follow k (zn x.data++r) ⟨0,[],if kI x.data then 1 else d.ino⟩ (dir||(qI x.data&&decide (r = [])))
def Jz (f:FsV) (b:Lz):Int×Int:=
 if (atV f b).2≠0 then (0,(atV f b).2) else if (atV f b).1.ino=0 then (0,1) else if (zf (atV f b).1.ino f.xs).kind≠2 then (0,3) else ((zf (atV f b).1.ino f.xs).ino,0)
def qO (f:FsV) (p:Lz):zo×Int:=if (atV f p).2≠0 then (Mn,(atV f p).2) else if (atV f p).1.ino=0 then (Mn,1) else (zf (atV f p).1.ino f.xs,0)
def zq (f:FsV) (b p:Lz) (follow:Bool):zK×Int:=
 if p = [] then (qu,1) else if X7 p then (qu,7)
 else if kI p then onN f follow 40 (zn p) ⟨0,[],1⟩ (qI p)
 else if (Jz f b).2≠0 then (qu,(Jz f b).2) else onN f follow 40 (zn p) ⟨0,[],(Jz f b).1⟩ (qI p)
def zeJ (f:FsV) (s:zK):Prop:=s.name = []∨(zk s.dir f.xs=true/\(zf s.dir f.xs).kind=2/\s.ino=zL s.name (zf s.dir f.xs).es)
theorem Ja (h:(zf n xs).kind=2):zk n xs=true:=by
 cases hh:zk n xs with
 | true=>rfl
 | false=>rw[(Jn hh).2]at h;exact absurd h (by decide)
theorem kL {f:FsV} {P:zK->Prop} {Q:Int->Prop} (hp:∀ m,Q m->P ⟨0,[],m⟩) (hq:∀ m,(zf m f.xs).kind=2->Q m/\Q (zf m f.xs).parent) (hn:∀ m n,(zf m f.xs).kind=2->P ⟨m,n,zL n (zf m f.xs).es⟩)
  {follow:Bool} {lk:zo->zo->Xe->Bool->zK×Int} (hl:∀ x m r dir,(zf m f.xs).kind=2->(lk x (zf m f.xs) r dir).2=0->P (lk x (zf m f.xs) r dir).1):∀ (l:Xe) (s:zK) (dir:Bool),P s->(onL f follow lk l s dir).2=0->P (onL f follow lk l s dir).1
 | [],s,dir,hs,h=>by
  unfold onL at h ⊢;split at h
  ·exact absurd h (show ¬(3:Int)=0 by decide)
  ·rename_i hn;rw[if_neg hn];exact hs
 | n :: r,s,dir,hs,h=>by
  unfold onL at h ⊢;by_cases h1:s.ino=0
  ·rw[if_pos h1]at h;exact absurd h (show ¬(1:Int)=0 by decide)
  rw[if_neg h1]at h ⊢;by_cases h2:(zf s.ino f.xs).kind=2
  case neg=>rw[if_pos h2]at h;exact absurd h (show ¬(3:Int)=0 by decide)
  rw[if_neg (fun q=>q h2)]at h ⊢;have e:=(zj (Ja h2)).2.2;by_cases h3:n = [46]
  ·rw[if_pos h3]at h ⊢;exact kL hp hq hn hl r _ dir (by rw[e];exact hp _ (hq _ h2).1) h
  rw[if_neg h3]at h ⊢;by_cases h4:n = [46,46]
  ·rw[if_pos h4]at h ⊢;exact kL hp hq hn hl r _ dir (hp _ (hq _ h2).2) h
  rw[if_neg h4]at h ⊢;split at h
  ·rename_i h5;rw[if_pos h5];exact kL hp hq hn hl r _ dir (by rw[e];exact hn _ _ h2) h
  ·rename_i h5;rw[if_neg h5];exact hl _ _ _ _ h2 h
theorem yV {f:FsV} {P:zK->Prop} {Q:Int->Prop} (hp:∀ m,Q m->P ⟨0,[],m⟩) (h1:Q 1) (hq:∀ m,(zf m f.xs).kind=2->Q m/\Q (zf m f.xs).parent) (hn:∀ m n,(zf m f.xs).kind=2->P ⟨m,n,zL n (zf m f.xs).es⟩) {follow:Bool}:∀ (k:Nat) (l:Xe) (s:zK) (dir:Bool),P s->(onN f follow k l s dir).2=0->P (onN f follow k l s dir).1
 | 0,l,s,dir,hs,h=>kL hp hq hn (fun _ _ _ _ _ h=>absurd h (show ¬(6:Int)=0 by decide)) l s dir hs h
 | k+1,l,s,dir,hs,h=>kL hp hq hn (fun x m r dir h2 h=>by
   split at h
   ·exact absurd h (show ¬(7:Int)=0 by decide)
   ·rename_i hg;rw[if_neg hg];refine yV hp h1 hq hn k _ _ _ (hp _ ?_) h;split
    ·exact h1
    ·rw[(zj (Ja h2)).2.2];exact (hq _ h2).1) l s dir hs h
theorem za9 {P:zK->Prop} {Q:Int->Prop} (hp:∀ m,Q m->P ⟨0,[],m⟩) (h1:Q 1) (hq:∀ m,(zf m f.xs).kind=2->Q m/\Q (zf m f.xs).parent) (hn:∀ m n,(zf m f.xs).kind=2->P ⟨m,n,zL n (zf m f.xs).es⟩) {b p:Lz} {follow:Bool} (h:(zq f b p follow).2=0):P (zq f b p follow).1:=by
 unfold zq at h ⊢;by_cases a:p = []
 ·rw[if_pos a]at h;exact absurd h (show ¬(1:Int)=0 by decide)
 rw[if_neg a]at h ⊢;by_cases c:X7 p=true
 ·rw[if_pos c]at h;exact absurd h (show ¬(7:Int)=0 by decide)
 rw[if_neg c]at h ⊢;by_cases e:kI p=true
 ·rw[if_pos e]at h ⊢;exact yV hp h1 hq hn _ _ _ _ (hp _ h1) h
 rw[if_neg e]at h ⊢;by_cases g:(Jz f b).2≠0
 ·rw[if_pos g]at h;exact absurd h g
 rw[if_neg g]at h ⊢;refine yV hp h1 hq hn _ _ _ _ (hp _ ?_) h;have g:=Wy.1 g;unfold Jz at g ⊢;by_cases i:(atV f b).2≠0
 ·rw[if_pos i]at g;exact absurd g i
 rw[if_neg i]at g ⊢;by_cases j:(atV f b).1.ino=0
 ·rw[if_pos j]at g;exact absurd g (show ¬(1:Int)=0 by decide)
 rw[if_neg j]at g ⊢;by_cases k:(zf (atV f b).1.ino f.xs).kind=2
 ·rw[if_neg (fun q=>q k)];show Q (zf _ f.xs).ino;rw[(zj (Ja k)).2.2];exact (hq _ k).1
 ·rw[if_pos k]at g;exact absurd g (show ¬(3:Int)=0 by decide)
theorem Xx {p:Lz} {follow:Bool} (h:(zq f b p follow).2=0):zeJ f (zq f b p follow).1:=
 za9 (P:=zeJ f) (Q:=fun _=>True) (fun _ _=>.inl rfl) trivial (fun _ _=>⟨trivial,trivial⟩) (fun m n h=>.inr ⟨Ja h,h,rfl⟩) h
def lkN (f:FsV) (follow:Bool):Nat->zo->zo->Xe->Bool->zK×Int
 | 0=>fun _ _ _ _=>(qu,6)
 | k+1=>fun x d r dir=>if X7 x.data then (qu,7) else onN f follow k (zn x.data++r) ⟨0,[],if kI x.data then 1 else d.ino⟩ (dir||(qI x.data&&decide (r = [])))
theorem kg (f:FsV) (follow:Bool) (k:Nat):onN f follow k=onL f follow (lkN f follow k):=by cases k<;>rfl
theorem QG (f:FsV) (follow:Bool) (k:Nat) (x d:zo) (r:Xe) (dir:Bool):lkN f follow (k+1) x d r dir=if X7 x.data then (qu,7) else onN f follow k (zn x.data++r) ⟨0,[],if kI x.data then 1 else d.ino⟩ (dir||(qI x.data&&decide (r = []))):=rfl
end
section
open Go.RowKit
section
variable {G:zt}
theorem QQ {bx:List (List C)} {i n cap:Nat} {rows:List (List C)} {cs:List C} (hb:bx[i]?=some cs) (hn:rows.length=n) (hc:n<=cap) (hm:cap<=9223372036854775807) (hk:∀ r∈rows,r.length=k) (hs:ji rows) (ht:cs.take (n*k)=rows.flatten):Yk bx (.bs i 0 k n cap) (.sl k rows):=by
 unfold Yk;exact ⟨rows,cs,rfl,hn,hc,by unfold maxLen;omega,hb,hk,by rw[AT,ht,Hu (Xn hs)]⟩
end
end
section
open Go.RowKit
theorem Qj {f:FsV} (hs:FsS f) {follow:Bool} {lk:zo->zo->Xe->Bool->zK×Int} (hl:∀ x d r dir,x.data.length<=10000->(∀ y∈r,y.length<=100000)->(lk x d r dir).1.name.length<=100000):∀ (l:Xe) (s:zK) (dir:Bool),(∀ y∈l,y.length<=100000)->s.name.length<=100000->(onL f follow lk l s dir).1.name.length<=100000
 | [],s,dir,hy,h=>by
  unfold onL;split
  ·exact Wc _
  ·exact h
 | n :: r,s,dir,hy,h=>by
  have hr:∀ y∈r,y.length<=100000:=fun y q=>hy y (Wn _ q);unfold onL;split
  ·exact Wc _
  split
  ·exact Wc _
  split
  ·exact Qj hs hl r _ dir hr (Wc _)
  split
  ·exact Qj hs hl r _ dir hr (Wc _)
  split
  ·exact Qj hs hl r _ dir hr (hy n Wl)
  ·rename_i hq;refine hl _ _ _ _ ?_ hr;have hk3:(zf (zL n (zf s.ino f.xs).es) f.xs).kind=3:=Wy.1 fun q=>hq (.inr (.inl q));have hhx:zk (zL n (zf s.ino f.xs).es) f.xs=true:=by
    cases hq2:zk (zL n (zf s.ino f.xs).es) f.xs with
    | true=>rfl
    | false=>rw[(Jn hq2).2]at hk3;exact absurd hk3 (by decide)
   exact (hs.node _ (zj hhx).2.1).2.1
theorem kj {f:FsV} (hs:FsS f) {follow:Bool}:∀ (k:Nat) (l:Xe) (s:zK) (dir:Bool),(∀ y∈l,y.length<=100000)->s.name.length<=100000->(onN f follow k l s dir).1.name.length<=100000
 | 0,l,s,dir,hy,h=>Qj hs (fun _ _ _ _ _ _=>Wc _) l s dir hy h
 | k+1,l,s,dir,hy,h=>Qj hs (fun x d r dir hx hr=>by
   split
   ·exact Wc _
   ·refine kj hs k _ _ _ (fun y q=>?_) (Wc _);rcases WF.1 q with q | q
    ·have:=(Qe x.data).2 y q;omega
    ·exact hr y q) l s dir hy h
theorem Gu (hs:FsS f) (b p:Lz) (follow:Bool) (hp:p.length<=100000):(zq f b p follow).1.name.length<=100000:=by
 have hn:∀ y∈zn p,y.length<=100000:=fun y q=>by have:=(Qe p).2 y q;omega
 unfold zq;split
 ·exact Wc _
 split
 ·exact Wc _
 split
 ·exact kj hs _ _ _ _ hn (Wc _)
 split
 ·exact Wc _
 ·exact kj hs _ _ _ _ hn (Wc _)
def UF (x:zo):Bool:=decide (x.kind=3)&&decide (300<(x.data.length:Int))
def ZO (f:FsV) (b p:Lz):Bool:=!((f.xs.take 100).any UF)&&decide ((b.length:Int)<=1000)&&decide ((p.length:Int)<=5000)
theorem zdF (f:FsV) (b p:Lz):Fun Tryz.prog G0 36 [.agg (fsC f),.str b,.str p] (qQ (ZO f b p)) 0:=by
 have hll:(zu f.xs).length=f.xs.length:=We ..;refine fon Tryz.func36 ?_;dsimp only[Tryz.f36];push_cast;refine loop (fun i:Nat=>⟨[(1,.str b),(2,.str p),(3,.ptr 0 0),(7,.sc (.int .i64 i))],[fsC f],0,0⟩) (fun i=>i<=100/\∀ t (h:t<f.xs.length),t<i->UF f.xs[t]=false) (fun i=>100-i) 0 ⟨Wc _,fun t h h'=>absurd h' (OJ _)⟩ ?_ ?_
 ·exact wk
 ·rintro i ⟨h1,h2⟩;have hend:¬(i<f.xs.length/\i<100)->(f.xs.take 100).any UF=false:=fun h=>by
   rw[Og];intro x hx;obtain ⟨t,ht,rfl⟩:=WH hx;rw[Ob]at ht;rw[List.getElem_take,h2 t (by omega) (by omega)];decide
  have stop:¬(i<f.xs.length/\i<100)->(decide ((b.length:Int)<=1000)&&decide ((p.length:Int)<=5000))=ZO f b p:=fun h=>by
   unfold ZO;rw[hend h];rfl
  by_cases h:i<f.xs.length
  ·by_cases h100:i<100
   ·have g1:=jg f.xs i h;have h100':(i:Int)<100:=by omega
    have hm:f.xs[i]∈f.xs.take 100:=by
     rw[AI];exact ⟨i,by omega,rfl⟩
    have next:UF f.xs[i]=false->∀ t (h:t<f.xs.length),t<i+1->UF f.xs[t]=false:=fun q t ht hlt=>by
     rcases Wr t i with r | r
     ·exact h2 t ht r
     ·have:t=i:=by omega
      subst this;exact q
    by_cases hk:f.xs[i].kind=3
    ·by_cases hd:300<(f.xs[i].data.length:Int)
     ·have hn:ZO f b p=false:=by
       have:(f.xs.take 100).any UF=true:=Oq.2 ⟨_,hm,by unfold UF;rw[Wm hk,Wm hd];rfl⟩;unfold ZO;rw[this];rfl
      push_cast [hll,h,h100',g1,hk,hd]
      repeat refine an ?_
      exact dn (by push_cast [ze,zd,CLe,zg,hn])
     ·have hq:UF f.xs[i]=false:=by unfold UF;rw[Wk hd,Ad]
      push_cast [hll,h,h100',g1,hk,hd]
      repeat refine an ?_
      exact ⟨i+1,⟨by omega,next hq⟩,by omega,wk⟩
    ·have hq:UF f.xs[i]=false:=by unfold UF;rw[Wk hk,Od]
     push_cast [hll,h,h100',g1,hk]
     repeat refine an ?_
     exact ⟨i+1,⟨by omega,next hq⟩,by omega,wk⟩
   ·have h100':((i:Int)<100)=False:=Wu (by omega);have:=(stop (by omega)).symm;by_cases hb:(b.length:Int)<=1000
    ·rw[Wm hb,Ok]at this;push_cast [hll,h,h100',hb];exact dn (by push_cast [ze,zd,CLe,zg,this])
    ·rw[Wk hb,Od]at this;push_cast [hll,h,h100',hb];exact dn (by push_cast [ze,zd,CLe,zg,this])
  ·have:=(stop (by omega)).symm;by_cases hb:(b.length:Int)<=1000
   ·rw[Wm hb,Ok]at this;push_cast [hll,h,hb];exact dn (by push_cast [ze,zd,CLe,zg,this])
   ·rw[Wk hb,Od]at this;push_cast [hll,h,hb];exact dn (by push_cast [ze,zd,CLe,zg,this])
end
section
theorem zhy (hi:FsI f) (hr:FsR f) {n:Int} (hh:zk n f.xs=true) (hk:(zf n f.xs).kind=2):zk (zf n f.xs).parent f.xs=true:=by
 have g:=zj hh;by_cases h1:n=1
 ·rw[(hr.node _ g.2.1).top (by rw[g.2.2];exact h1)];exact hi.root
 ·have hl:=(hr.node _ g.2.1).named (by rw[g.2.2];exact h1);rw[FsR.links hi g.2.1,g.2.2]at hl;obtain ⟨p,hp⟩:=zag (n:=n) (l:=qn f.xs) (by omega);obtain ⟨y,hy,e,he,q1,q2⟩:=VE.1 hp;obtain ⟨rk,hed⟩:=hr.edge;have:=(hed y hy e he (by rw[q1];exact hk)).1;rw[q1]at this;rw[this];exact Ym hy
end
section
def HL (xs:List zo):Prop:=∀ x∈xs,x.kind=3->x.data.length<=1000
theorem NE (h:HL xs) (n:Int):(zf n xs).kind=3->(zf n xs).data.length<=1000:=fun hk=>by
 cases hh:zk n xs with
 | true=>exact h _ (zj hh).2.1 hk
 | false=>rw[(Jn hh).2]at hk;exact absurd hk (by decide)
theorem U7 {x:zo} (h:HL xs) (hx:x.kind=3->x.data.length<=1000):HL (qq x xs):=fun z hz hk=>by
 rcases zoh hz with rfl | hz
 ·exact hx hk
 ·exact h z hz hk
theorem vn (h:zk n xs=false):zf n xs=Mn:=by unfold zf;rw[(Jn h).1];rfl
end
section
theorem Hn (h:HL xs) (n:Int) (F:List zS->List zS):HL (qr n F xs):=U7 h (NE h n)
theorem Nh (h:HL w.fs.xs) {p:Lz} {k:Int} {t:Lz} (ht:k=3->t.length<=1000):HL (VD w p k t).1.fs.xs:=by
 unfold VD;split
 ·exact h
 ·show HL (zdX _ _ _ _).1.xs;rcases QR w.fs (isV w.fs p false).1 k t with e | e
  ·rw[e];exact h
  ·rw[e];exact U7 (Hn h _ _) ht
theorem zcZ (s:zK) (h:HL f.xs):HL (zl f s).xs:=by
 have hd:HL (qr s.dir (zi s.name) f.xs):=Hn h _ _;unfold zl;split
 ·exact fun z hz hk=>hd z (Xw.1 hz).1 hk
 ·exact U7 hd (NE h s.ino)
theorem ziJ (a b:zK) (h:HL f.xs):HL (jN f a b).xs:=by
 have hd:=Hn (Hn h a.dir (zi a.name)) b.dir (zZ b.name a.ino);unfold jN;simp only;split
 ·exact U7 hd (NE hd a.ino)
 ·exact hd
theorem zqa (h:HL w.fs.xs) (o:OpV) (hd:o.d.length<=1000) (h3:o.kind≠3):HL (doV w o).1.fs.xs:=by
 unfold doV;by_cases c0:(!HO o)=true
 ·rw[if_pos c0];exact h
 rw[if_neg c0];by_cases c1:o.kind=1
 ·rw[if_pos c1];exact Nh h fun q=>by cases q
 rw[if_neg c1];by_cases c2:o.kind=2
 ·rw[if_pos c2];unfold Vs;split
  ·exact h
  ·exact Nh h fun q=>by cases q
 rw[if_neg c2,if_neg h3];by_cases c4:o.kind=4
 ·rw[if_pos c4];exact Nh h fun _=>hd
 rw[if_neg c4];by_cases c5:o.kind=5
 ·rw[if_pos c5];unfold VK;simp only;split
  ·exact h
  split
  ·exact h
  split
  ·exact h
  ·exact U7 (Hn h _ _) (NE h _)
 rw[if_neg c5];by_cases c6:o.kind=6
 ·rw[if_pos c6];unfold JV;split
  ·exact h
  split
  ·exact h
  ·exact ziJ _ _ h
 rw[if_neg c6];unfold qW;simp only;split
 ·exact h
 split
 ·exact h
 ·unfold Xp;split
  ·exact h
  ·exact zcZ _ h
structure GrD (N:Nat) (d:zW):Prop where
 b:Ui N d
 r:vR d.w
 next:d.w.fs.next<=549755813888+N
 dat:HL d.w.fs.xs
theorem yK.mono {M:Nat} (h:yK N w) (hN:N<=M):yK M w:=by
 have key:∀ x,HD N x->HD M x:=fun x hx=>⟨WL hx.1 hN,hx.2⟩;exact ⟨WL h.len hN,fun x hx=>key x (h.node x hx),WL h.klen hN,h.kdata,WL h.plen hN,fun x hx=>key x (h.pnode x hx),by have:=h.next;omega,h.room⟩
theorem GrD.mono {M:Nat} (h:GrD N d) (hN:N<=M):GrD M d:=
 ⟨⟨h.b.wi,h.b.wb.mono (by omega),WL h.b.ops hN,WL h.b.diags hN,h.b.slot.1,by have:=h.b.slot.2;omega⟩,h.r,by have:=h.next;omega,h.dat⟩
theorem GrD.add (h:GrD N d) {o:OpV} (ho:o.d.length<=1000) (h3:o.kind≠3):GrD (N+1) (Qa d o).1:=by
 have hB:=zrw h.b (o:=o) (by omega);by_cases hz:(Qa d o).2=0
 case neg=>rw[yj hz]at hB ⊢;exact ⟨hB,h.r,by have:=h.next;omega,h.dat⟩
 unfold Qa at hz hB ⊢;split at hz
 ·exact absurd hz (show ¬(12:Int)=0 by decide)
 rename_i hk;rw[if_neg hk]at hB ⊢;split at hz
 ·rename_i hd;exact absurd hz hd
 rename_i hd;rw[if_neg hd]at hB ⊢;have hk7:(Zl d o).kind<=7:=by show o.kind<=7;omega
 have hn:=znj d.w (Zl d o);have hx:=h.next;exact ⟨hB,zt2 h.b.wi h.r _ hk7,by show (doV d.w (Zl d o)).1.fs.next<=_;omega,zqa h.dat _ ho h3⟩
theorem GrD.tell (h:GrD N d) (x:Lz):GrD (N+1) (Yj d x):=by
 have hB:=h.b.up;exact ⟨⟨hB.wi,hB.wb,hB.ops,by show (d.diags++[x]).length<=N+1;rw[Wi,OF];have:=h.b.diags;omega,hB.slot⟩,h.r,by have:=h.next;show d.w.fs.next<=_;omega,h.dat⟩
theorem GrD.ok (h:GrD N d) (hN:N<=3200):okM d.w.fs:=
 ⟨⟨by have:=h.b.wb.len;omega,fun x hx=>by obtain ⟨q1,q2,q3⟩:=h.b.wb.node x hx;exact ⟨q2,by omega,q3⟩⟩,h.r.fs.check h.b.wi.fs (by have:=h.next;omega)⟩
theorem zlB (h:okW w) (hd:HL w.fs.xs) (hn:w.fs.next<=549755813888) (hl:Jd w.kept<=536870912):GrD 0 (GV w):=
 ⟨⟨ztg h,zhC h,Wb _,Wb _,(Zy h.2.2.2.2.1).1,by show Jd w.kept<=_;omega⟩,zsc h,by show w.fs.next<=_;omega,hd⟩
theorem zbg (h:okM f) {s:zK} (hh:zk s.dir f.xs=true) (hk:(zf s.dir f.xs).kind=2) (hm:may s.name=true):(zX f s).length<=990000:=by
 obtain ⟨ns,n1,n2,n3,n4,n5⟩:=zl6 h hh hk;have hml:=N2 hm;have hjw:=Qh ns;have hjl:(qy ns).length<=980001:=by unfold qy;split<;>simp<;>omega
 have e:zX f s=Hb (qy ns) s.name:=by unfold zX;rw[n5];rfl
 have:=zgQ (qy ns) s.name;rw[e];omega
theorem kW (hi:FsI f) {s:zK} (h:zeJ f s) (h0:s.ino=0) (hm:may s.name=true):JF f s:=by
 rcases h with h | ⟨h1,h2,h3⟩
 ·rw[h]at hm;exact absurd hm (by decide)
 ·refine ⟨h1,h2,?_⟩;cases hq:Yo s.name (zf s.dir f.xs).es with
  | false=>rfl
  | true=>exact absurd (h3.symm.trans h0) (Xq hi (Qf hi h1 hq))
theorem Yq {s:zK} (h:zeJ f s) (hi:FsI f) (h0:zk s.ino f.xs=true) (hn:s.name≠[]):zx f s:=by
 rcases h with h | ⟨h1,h2,h3⟩
 ·exact absurd h hn
 ·have h0:=Xq hi h0;refine ⟨h1,h2,?_⟩;have he:Yo s.name (zf s.dir f.xs).es=true:=by
   unfold Yo;rw[qC];cases hq:jk zS.name s.name (zf s.dir f.xs).es with
   | some e=>rfl
   | none=>unfold zL at h3;rw[hq]at h3;exact absurd h3 h0
  rw[YU he,←h3]
theorem Qq (hr:FsR f) {s:zK} (hs:zx f s):may s.name=true:=(hr.node _ (zj hs.has).2.1).nam ⟨s.name,s.ino⟩ (zT hs.there).2
end
section
def Q4 (f:FsV) (b p:Lz):Bool:=decide ((zq f b p true).2=0)&&decide ((zf (zq f b p true).1.ino f.xs).kind=2)
def Gv (f:FsV) (b:Lz) (k:Int) (o p:Lz):Bool:=decide (k=3)&&decide ((110:UInt8)∈o)&&decide ((zq f b p false).2=0)&&decide ((zf (zq f b p false).1.ino f.xs).kind=3)
def HB (f:FsV) (b:Lz) (k:Int) (o:Lz) (ops:List Lz):Bool:=
 !decide (ops.length<2)&&!decide ((84:UInt8)∈o)&&!Gv f b k o (ops.getLastD [])&&Q4 f b (ops.getLastD [])
def qg (f:FsV) (b:Lz) (k:Int) (o:Lz) (ops:List Lz):Option (List Lz):=
 if ops.length=1 then some [J8 (ops.headD [])] else if HB f b k o ops then some (ops.dropLast.map fun p=>J9 (ops.getLastD []) (J8 p))
 else if ops.length=2 then some [ops.getLastD []] else none
theorem Nt (p:Lz):(J8 p).length<=p.length+1:=by
 unfold J8;rcases Ah (zn p) with e | ⟨l,x,e⟩
 ·rw[e];show (if Lib.hasPrefix p [47] then [47] else ([]:Lz)).length<=_;split<;>simp
 ·have:=(Qe p).2 x (by rw[e,O0];simp);rw[e,O0,List.getLastD_concat];omega
theorem Ge {k:Int} {o:Lz} {ops ps:List Lz} (h:qg f b k o ops=some ps) (hp:∀ x∈ops,x.length<=1000):ps.length<=ops.length/\∀ x∈ps,x.length<=2003:=by
 have hl:(ops.getLastD []).length<=1000:=by
  rcases Ah ops with e | ⟨l,x,e⟩
  ·rw[e];exact Wc _
  ·rw[e,O0,List.getLastD_eq_getLast?,BN];simp;exact hp x (by rw[e];simp)
 unfold qg at h;split at h
 ·cases h;have hh:(ops.headD []).length<=1000:=by
   cases ops with
   | nil=>exact Wc _
   | cons x r=>exact hp x Wl
  have:=Nt (ops.headD []);exact ⟨by simp;omega,fun x hx=>by rw[W3.1 hx];omega⟩
 split at h
 ·cases h;refine ⟨by simp,fun x hx=>?_⟩;obtain ⟨y,hy,rfl⟩:=WS.1 hx;have h1:=hp y (BO _ hy);have h2:=Nt y;generalize ops.getLastD []=z at *;unfold J9;split<;>simp<;>omega
 split at h
 ·cases h;exact ⟨by simp;omega,fun x hx=>by rw[W3.1 hx];omega⟩
 ·cases h
def UL (xs:List zo):Nat->Int->Int->Bool
 | 0,_,_=>false
 | m+1,d,o=>if d=o then true else if d=1 then false else UL xs m (zf d xs).parent o
end
section
def H9 (p:Lz):OpV:=⟨7,0,p,[],[]⟩
structure zuk (f g:FsV):Prop where
 es:∀ n e,e∈(zf n g.xs).es->e∈(zf n f.xs).es
 has:∀ n,zk n g.xs=true->zk n f.xs=true/\(zf n g.xs).kind=(zf n f.xs).kind
def zsU (f g:FsV) (n d:Int):Prop:=∀ y,zk y f.xs=true->(zf y f.xs).kind=2->y≠d->¬Bel f.xs n y->zk y g.xs=true/\(zf y g.xs).kind=2/\(zf y g.xs).es=(zf y f.xs).es
theorem zg6 (hi:FsI f) {s:zK} (hs:zx f s) (he:(zf s.ino f.xs).es = []):zuk f (zl f s)/\zsU f (zl f s) s.ino s.dir/\zk s.dir (zl f s).xs=true/\(zf s.dir (zl f s).xs).kind=2/\(zf s.dir (zl f s).xs).es=zi s.name (zf s.dir f.xs).es:=by
 have hh:=zx.ino hi hs;have hx:=zj hh;have hd:=zj hs.has;have hne:s.dir≠s.ino:=fun e=>by
  have:=(zT hs.there).2;rw[e,he]at this;cases this
 have hhas:=QT hs.has hh
 -- what is there behind it
 have hgot:∀ m,zk m (zl f s).xs=true->(zf m (zl f s).xs).kind=(zf m f.xs).kind/\(zf m (zl f s).xs).es=if m=s.dir then zi s.name (zf s.dir f.xs).es else (zf m f.xs).es:=fun m hm=>by
  unfold zl at hm ⊢;by_cases hl:(zf s.ino f.xs).links-1=0
  ·rw[if_pos hl]at hm ⊢;have hm:zk m (qf _ _)=true:=hm;show (zf m (qf _ _)).kind=_/\(zf m (qf _ _)).es=_;rw[Xu]at hm;have hmn:m≠s.ino:=fun e=>by rw[e]at hm;simp at hm
   rw[ZP,if_neg hmn,j6 hs.has];by_cases q:s.dir=m
   ·rw[if_pos q,if_pos q.symm];subst q;exact ⟨rfl,rfl⟩
   ·rw[if_neg q,if_neg fun e=>q e.symm];exact ⟨rfl,rfl⟩
  ·rw[if_neg hl];show (zf m (qq _ _)).kind=_/\(zf m (qq _ _)).es=_;rw[qN];split
   ·rename_i e;have e:(zf s.ino f.xs).ino=m:=e;rw[hx.2.2]at e;subst e;rw[if_neg fun e=>hne e.symm];exact ⟨rfl,rfl⟩
   ·rw[j6 hs.has];by_cases q:s.dir=m
    ·rw[if_pos q,if_pos q.symm];subst q;exact ⟨rfl,rfl⟩
    ·rw[if_neg q,if_neg fun e=>q e.symm];exact ⟨rfl,rfl⟩
 have hsub:∀ m,zk m (zl f s).xs=true->zk m f.xs=true:=fun m hm=>by
  rw[hhas]at hm;split at hm
  ·rw[Wt]at hm;exact hm.2
  ·exact hm
 have hstay:∀ m,zk m f.xs=true->m≠s.ino->zk m (zl f s).xs=true:=fun m hm hn=>by
  rw[hhas];split
  ·rw[hm,Wk hn];rfl
  ·exact hm
 refine ⟨⟨fun n e hee=>?_,fun n hn=>⟨hsub n hn,(hgot n hn).1⟩⟩,fun y y1 y2 y3 y4=>?_,hstay _ hs.has hne,?_,?_⟩
 ·cases hn:zk n (zl f s).xs with
  | false=>rw[(Jn hn).2]at hee;cases hee
  | true =>
   rw[(hgot n hn).2]at hee;split at hee
   ·subst_vars;exact (qK hee).1
   ·exact hee
 ·have hyn:y≠s.ino:=fun e=>y4 (by rw[e];exact .refl);have h1:=hstay y y1 hyn;obtain ⟨q1,q2⟩:=hgot y h1;rw[if_neg y3]at q2;exact ⟨h1,q1.trans y2,q2⟩
 ·rw[(hgot _ (hstay _ hs.has hne)).1];exact hs.kind
 ·rw[(hgot _ (hstay _ hs.has hne)).2,if_pos rfl]
end
section
def mvS (f:FsV) (b u v:Lz):Option (Int×Int):=
 if (zq f b u false).2≠0 then some (11,(zq f b u false).2) else if zk (zq f b u false).1.ino f.xs=false then some (11,1) else if (zq f b u false).1.name = [] then some (15,10)
 else if (zq f b v false).2≠0 then some (15,(zq f b v false).2) else if (zq f b v false).1.name = [] then some (15,10) else none
def mvJ (f:FsV) (o:Lz) (a t:zK) (v:Lz):(Int×Int)×Bool:=
 if zk t.ino f.xs=true/\(110:UInt8)∈o then ((0,0),false)
 else if zk t.ino f.xs=true/\a.ino=t.ino then ((9,0),false)
 else if (zf a.ino f.xs).kind=2/\UL f.xs f.xs.length t.dir a.ino=true then ((14,0),false)
 else if zk t.ino f.xs=true then
  (if (zf a.ino f.xs).kind=2/\(zf t.ino f.xs).kind≠2 then ((12,0),false) else if (zf a.ino f.xs).kind≠2/\(zf t.ino f.xs).kind=2 then ((13,0),false) else ((15,5),decide ((zf t.ino f.xs).es = [])))
 else if qI v=true/\(zf a.ino f.xs).kind≠2 then ((15,3),false) else if may t.name=false then ((15,9),false) else ((0,0),true)
def J4 (p q:Lz):OpV:=⟨6,0,p,q,[]⟩
def zlb (d:zW) (a t:zK):zW:=
 (Qa (if zk t.ino d.w.fs.xs then (Qa d (H9 (zX d.w.fs t))).1 else d) (J4 (zX d.w.fs a) (zX d.w.fs t))).1
def XL (b o:Lz) (d:zW) (u v:Lz):zW:=
 match mvS d.w.fs b u v with
 | some e=>Yj d (Jl 4 e.1 u v e.2)
 | none =>
  if (mvJ d.w.fs o (zq d.w.fs b u false).1 (zq d.w.fs b v false).1 v).2 then zlb d (zq d.w.fs b u false).1 (zq d.w.fs b v false).1
  else if (mvJ d.w.fs o (zq d.w.fs b u false).1 (zq d.w.fs b v false).1 v).1.1=0 then d
  else Yj d (Jl 4 (mvJ d.w.fs o (zq d.w.fs b u false).1 (zq d.w.fs b v false).1 v).1.1 u v (mvJ d.w.fs o (zq d.w.fs b u false).1 (zq d.w.fs b v false).1 v).1.2)
def zae (b o:Lz) (l:List (Lz×Lz)) (d:zW):zW:=l.foldl (fun d p=>XL b o d p.1 p.2) d
def yN (k:Int) (b o:Lz) (ops:List Lz) (d:zW):zW:=
 match qg d.w.fs b k o ops with
 | none=>Yj d (Jl k 10 (ops.getLastD []) [] 0)
 | some ps=>zae b o (ops.zip ps) d
theorem zly (h:GrD N d) (a t:zK):GrD (N+2) (zlb d a t):=by
 unfold zlb;have h1:GrD (N+1) (if zk t.ino d.w.fs.xs then (Qa d (H9 (zX d.w.fs t))).1 else d):=by
  split
  ·exact h.add (Wc _) (show ¬(7:Int)=3 by decide)
  ·exact h.mono (Nat.le_succ _)
 exact h1.add (Wc _) (show ¬(6:Int)=3 by decide)
theorem zmg (h:GrD N d) (b o u v:Lz):GrD (N+2) (XL b o d u v):=by
 unfold XL;split
 ·exact (h.tell _).mono (by omega)
 ·split
  ·exact zly h _ _
  ·split
   ·exact h.mono (by omega)
   ·exact (h.tell _).mono (by omega)
theorem zl2 {u:Lz} (h:mvS f b u v=none):(zq f b u false).2=0/\zk (zq f b u false).1.ino f.xs=true/\(zq f b u false).1.name≠[]/\(zq f b v false).2=0/\(zq f b v false).1.name≠[]:=by
 unfold mvS at h;by_cases h1:(zq f b u false).2≠0
 ·rw[if_pos h1]at h;cases h
 rw[if_neg h1]at h;by_cases h2:zk (zq f b u false).1.ino f.xs=false
 ·rw[if_pos h2]at h;cases h
 rw[if_neg h2]at h;by_cases h3:(zq f b u false).1.name = []
 ·rw[if_pos h3]at h;cases h
 rw[if_neg h3]at h;by_cases h4:(zq f b v false).2≠0
 ·rw[if_pos h4]at h;cases h
 rw[if_neg h4]at h;by_cases h5:(zq f b v false).1.name = []
 ·rw[if_pos h5]at h;cases h
 exact ⟨Wy.1 h1,by simpa using h2,h3,Wy.1 h4,h5⟩
theorem zlG {o:Lz} {a t:zK} (h:(mvJ f o a t v).2=true):(zk t.ino f.xs=true->a.ino≠t.ino/\(zf t.ino f.xs).es = []/\((zf a.ino f.xs).kind=2↔(zf t.ino f.xs).kind=2))/\(zk t.ino f.xs=false->may t.name=true/\(qI v=true->(zf a.ino f.xs).kind=2))/\((zf a.ino f.xs).kind=2->UL f.xs f.xs.length t.dir a.ino=false):=by
 unfold mvJ at h;by_cases h1:zk t.ino f.xs=true/\(110:UInt8)∈o
 ·rw[if_pos h1]at h;cases h
 rw[if_neg h1]at h;by_cases h2:zk t.ino f.xs=true/\a.ino=t.ino
 ·rw[if_pos h2]at h;cases h
 rw[if_neg h2]at h;by_cases h3:(zf a.ino f.xs).kind=2/\UL f.xs f.xs.length t.dir a.ino=true
 ·rw[if_pos h3]at h;cases h
 rw[if_neg h3]at h;have g3:(zf a.ino f.xs).kind=2->UL f.xs f.xs.length t.dir a.ino=false:=fun q=>by
  cases hq:UL f.xs f.xs.length t.dir a.ino with
  | false=>rfl
  | true=>exact absurd ⟨q,hq⟩ h3
 by_cases h4:zk t.ino f.xs=true
 ·rw[if_pos h4]at h;by_cases h5:(zf a.ino f.xs).kind=2/\(zf t.ino f.xs).kind≠2
  ·rw[if_pos h5]at h;cases h
  rw[if_neg h5]at h;by_cases h6:(zf a.ino f.xs).kind≠2/\(zf t.ino f.xs).kind=2
  ·rw[if_pos h6]at h;cases h
  rw[if_neg h6]at h;refine ⟨fun _=>⟨fun q=>h2 ⟨h4,q⟩,WR h,⟨fun q=>OU fun z=>h5 ⟨q,z⟩,fun q=>OU fun z=>h6 ⟨z,q⟩⟩⟩,fun q=>(by rw[h4]at q;cases q),g3⟩
 ·rw[if_neg h4]at h;by_cases h5:qI v=true/\(zf a.ino f.xs).kind≠2
  ·rw[if_pos h5]at h;cases h
  rw[if_neg h5]at h;by_cases h6:may t.name=false
  ·rw[if_pos h6]at h;cases h
  exact ⟨fun q=>absurd q h4,fun _=>⟨by simpa using h6,fun q=>OU fun z=>h5 ⟨q,z⟩⟩,g3⟩
theorem zlS {u:Lz} {e:Int×Int} (h:mvS f b u v=some e):e.1≠0:=by
 unfold mvS at h;split at h
 ·cases h;exact show ¬(11:Int)=0 by decide
 split at h
 ·cases h;exact show ¬(11:Int)=0 by decide
 split at h
 ·cases h;exact show ¬(15:Int)=0 by decide
 split at h
 ·cases h;exact show ¬(15:Int)=0 by decide
 split at h
 ·cases h;exact show ¬(15:Int)=0 by decide
 ·cases h
end
section
theorem Uf {n m:Lz} (h:m≠n) (es:List zS):jk zS.name m (zi n es)=jk zS.name m es:=by
 unfold zi JH jk
 induction es with
 | nil=>rfl
 | cons e r ih =>
  rw[O5];by_cases q:e.name=n
  ·rw[if_neg (by simpa using q),ih,Aq (by rw[q];simpa using fun z=>h z.symm)]
  ·rw[if_pos (by simpa using q)];by_cases z:e.name=m
   ·rw[AG (by simpa using z),AG (by simpa using z)]
   ·rw[Aq (by simpa using z),Aq (by simpa using z),ih]
theorem zin {x y:Int} (he:(zf x xs).es = []) (h:Bel xs x y):y=x:=by
 induction h with
 | refl=>rfl
 | step a b c ih =>
  obtain ⟨e,he2,_⟩:=c;rw[ih,he]at he2;cases he2
theorem U2 (hi:FsI f) {s:zK} (hs:zx f s) (he:(zf s.ino f.xs).es = []) {y:Int} (hh:zk y f.xs=true) (hk:(zf y f.xs).kind=2) (hy:y≠s.ino):zk y (zl f s).xs=true/\(zf y (zl f s).xs).kind=2/\(zf y (zl f s).xs).es=if y=s.dir then zi s.name (zf y f.xs).es else (zf y f.xs).es:=by
 obtain ⟨_,h2,h3,h4,h5⟩:=zg6 hi hs he;by_cases q:y=s.dir
 ·subst q;rw[if_pos rfl];exact ⟨h3,h4,h5⟩
 ·rw[if_neg q];exact h2 y hh hk q fun z=>hy (zin he z)
theorem yI (hi:FsI f) {s:zK} (hs:zx f s) (he:(zf s.ino f.xs).es = []) {ns:List Lz} {n:Int} (h:Qb f.xs ns n):n≠s.ino->Qb (zl f s).xs ns n:=by
 induction h with
 | root=>exact fun _=>.root
 | step a b c e ih =>
  rename_i ns y n m;intro hn;have hm:=(zT e).2;have hy:y≠s.ino:=fun q=>by rw[q,he]at hm;cases hm
  obtain ⟨q1,q2,q3⟩:=U2 hi hs he b c hy;refine .step (ih hy) q1 q2 ?_;rw[q3];split
  ·rename_i q;subst q;rw[Uf (fun z=>hn ?_),e];have:=hs.there;rw[←z,e]at this;exact WA zS.ino (Option.some.inj this)
  ·exact e
theorem Gt (hi:FsI f) {s a:zK} (hs:zx f s) (he:(zf s.ino f.xs).es = []) (ha:zx f a) (hn:a.ino≠s.ino):zx (zl f s) a/\a.dir≠s.ino:=by
 have hm:=(zT ha.there).2;have hy:a.dir≠s.ino:=fun q=>by rw[q,he]at hm;cases hm
 obtain ⟨q1,q2,q3⟩:=U2 hi hs he ha.has ha.kind hy;refine ⟨⟨q1,q2,?_⟩,hy⟩;rw[q3];split
 ·rename_i q;rw[Uf (fun z=>hn ?_)]
  ·exact ha.there
  ·have h1:=ha.there;have h2:=hs.there;rw[q,z]at h1;rw[h1]at h2;exact WA zS.ino (Option.some.inj h2)
 ·exact ha.there
theorem yn (hi:FsI f) {s:zK} (hs:zx f s) (he:(zf s.ino f.xs).es = []):JF (zl f s) ⟨s.dir,s.name,0⟩/\s.dir≠s.ino:=by
 have hm:=(zT hs.there).2;have hy:s.dir≠s.ino:=fun q=>by rw[q,he]at hm;cases hm
 obtain ⟨q1,q2,q3⟩:=U2 hi hs he hs.has hs.kind hy;refine ⟨⟨q1,q2,?_⟩,hy⟩;show Yo s.name (zf s.dir (zl f s).xs).es=false;rw[q3,if_pos rfl];unfold Yo Ya;rw[Og];intro e he2 q;exact (qK he2).2 (by simpa using q)
theorem XN {x:Int} (h:Qb xs ns x):∀ {y:Int},Qb xs ns y->x=y:=by
 induction h with
 | root =>
  intro y h;rcases h.inv with ⟨_,e⟩ | ⟨ms,z,m,e,_⟩
  ·exact e.symm
  ·simp at e
 | step a b c e ih =>
  intro y h;rcases h.inv with ⟨e2,_⟩ | ⟨ms,z,m,e2,h1,h2,h3,h4⟩
  ·simp at e2
  ·obtain ⟨rfl,e3⟩:=AP e2 rfl;cases e3;have:=ih h1;subst this;rw[e]at h4;exact WA zS.ino (Option.some.inj h4)
theorem Nm {α:Type} {P:List α->Prop} (nil:P []) (snoc:∀ l x,P l->P (l++[x])) (l:List α):P l:=by
 rw[←List.reverse_reverse l]
 induction l.reverse with
 | nil=>exact nil
 | cons x r ih=>rw[List.reverse_cons];exact snoc _ _ ih
theorem zan:∀ (r A:List Lz) {n:Int},Qb xs (A++r) n->∃ y,Qb xs A y/\(r≠[]->(zf y xs).kind=2/\(zf y xs).es≠[]):=by
 intro r
 induction r using Nm with
 | nil=>intro A n h;rw[W4]at h;exact ⟨n,h,fun q=>absurd rfl q⟩
 | snoc r m ih =>
  intro A n h;rw[←WI]at h;rcases h.inv with ⟨e,_⟩ | ⟨ms,z,m2,e,h1,h2,h3,h4⟩
  ·simp at e
  ·obtain ⟨rfl,_⟩:=AP e rfl;obtain ⟨y,y1,y2⟩:=ih A h1;refine ⟨y,y1,fun _=>?_⟩;by_cases hr:r = []
   ·subst hr;rw[W4]at h1;rw[XN y1 h1];exact ⟨h3,fun q=>by have:=(zT h4).2;rw[q]at this;cases this⟩
   ·exact y2 hr
theorem zbx (h:Qb xs ns n):Dep xs ns.length n:=by
 induction h with
 | root=>exact .root
 | step a b c e ih =>
  rw[Wi,OF];exact .step ih b (zT e).2
theorem zlg (hok:okM f) (hi:FsI f) (hr:FsR f) {A:List Lz} {y:Int} (hA:Qb f.xs A y):∀ (r:List Lz) {d:Int} (m:Nat),Qb f.xs (A++r) d->(zf d f.xs).kind=2->A.length+r.length<m->UL f.xs m d y=true:=by
 intro r
 induction r using Nm with
 | nil =>
  intro d m h hk hm;rw[W4]at h;obtain ⟨m,rfl⟩:∃ q,m=q+1:=⟨m-1,by omega⟩;unfold UL;rw[if_pos (XN h hA)]
 | snoc r q ih =>
  intro d m h hk hm;rw[Wi,OF]at hm;obtain ⟨m,rfl⟩:∃ q,m=q+1:=⟨m-1,by omega⟩;rw[←WI]at h;rcases h.inv with ⟨e,_⟩ | ⟨ms,z,m2,e,h1,h2,h3,h4⟩
  ·simp at e
  ·obtain ⟨rfl,_⟩:=AP e rfl;have hin:=(zT h4).2;obtain ⟨rk,hed⟩:=hr.edge;have gz:=zj h2;have hp:=(hed _ gz.2.1 _ hin hk).1;rw[gz.2.2]at hp;have hp:(zf d f.xs).parent=z:=hp;have h1d:d≠1:=jb hok h2 hin;unfold UL;by_cases hd:d=y
   ·rw[if_pos hd]
   ·rw[if_neg hd,if_neg h1d,hp];exact ih m h1 h3 (by omega)
theorem za0 (hok:okM f) (hi:FsI f) (hr:FsR f) {a t:zK} (ha:zx f a) {nA nT:List Lz} (hA:Qb f.xs nA a.dir) (hT:Qb f.xs nT t.dir) (hTh:zk t.dir f.xs=true) (hTk:(zf t.dir f.xs).kind=2)
  (ht:∀ x,jk zS.name t.name (zf t.dir f.xs).es=some ⟨t.name,x⟩->x≠a.ino/\(zf x f.xs).es = []) (hins:(zf a.ino f.xs).kind=2->UL f.xs f.xs.length t.dir a.ino=false) (vA:∀ z∈nA,may z=true) (vT:∀ z∈nT,may z=true) (ma:may a.name=true) (mt:may t.name=true) :
  YQ (qy (nA++[a.name])) (qy (nT++[t.name]))=false/\YQ (qy (nT++[t.name])) (qy (nA++[a.name]))=false:=by
 have nmA:∀ z∈nA++[a.name],Vp z:=fun z hz=>by
  rcases WF.1 hz with q | q
  ·exact JR (vA z q)
  ·rw[W3.1 q];exact JR ma
 have nmT:∀ z∈nT++[t.name],Vp z:=fun z hz=>by
  rcases WF.1 hz with q | q
  ·exact JR (vT z q)
  ·rw[W3.1 q];exact JR mt
 have hsame:nA++[a.name]≠nT++[t.name]:=fun e=>by
  obtain ⟨rfl,e2⟩:=AP e rfl;have e2:a.name=t.name:=by simpa using e2
  have hd:=XN hA hT;have:=ha.there;rw[hd,e2]at this;exact (ht _ this).1 rfl
 rw[Zk _ _ nmA nmT,Zk _ _ nmT nmA];refine ⟨Wk fun q=>?_,Wk fun q=>?_⟩
 ·have e:nA++[a.name]=(nT++[t.name])++(nA++[a.name]).drop (nT++[t.name]).length:=by
   conv=>lhs;rw[←Oa (nT++[t.name]).length (nA++[a.name]),q]
  generalize (nA++[a.name]).drop (nT++[t.name]).length=r at e;rcases Ah r with e0 | ⟨r',x,e0⟩
  ·rw[e0,W4]at e;exact hsame e
  ·rw[e0,O0,←WI]at e;obtain ⟨e1,_⟩:=AP e rfl;rw[e1]at hA;obtain ⟨y,y1,y2⟩:=zan r' _ hA;have hes:(zf y f.xs).es≠[]:=by
    by_cases hr':r' = []
    ·rw[hr',W4]at hA;rw[XN y1 hA];exact fun z=>by have:=(zT ha.there).2;rw[z]at this;cases this
    ·exact (y2 hr').2
   rcases y1.inv with ⟨z,_⟩ | ⟨ms,z,m2,e2,h1,h2,h3,h4⟩
   ·simp at z
   ·obtain ⟨rfl,e3⟩:=AP e2 rfl;cases e3;rw[←XN hT h1]at h4;exact hes (ht _ h4).2
 ·have e:nT++[t.name]=(nA++[a.name])++(nT++[t.name]).drop (nA++[a.name]).length:=by
   conv=>lhs;rw[←Oa (nA++[a.name]).length (nT++[t.name]),q]
  generalize (nT++[t.name]).drop (nA++[a.name]).length=r at e;rcases Ah r with e0 | ⟨r',x,e0⟩
  ·rw[e0,W4]at e;exact hsame e.symm
  ·rw[e0,O0,←WI]at e;obtain ⟨e1,_⟩:=AP e rfl;have hLa:Qb f.xs (nA++[a.name]) a.ino:=.step hA ha.has ha.kind ha.there;rw[e1]at hT;have hka:(zf a.ino f.xs).kind=2:=by
    obtain ⟨y,y1,y2⟩:=zan r' _ hT;rw[XN hLa y1];by_cases hr':r' = []
    ·rw[hr',W4]at hT;rw[XN y1 hT];exact hTk
    ·exact (y2 hr').1
   have hlt:=MT hok (zbx hT) hTh hTk;rw[Wi]at hlt;have:=zlg hok hi hr hLa r' f.xs.length hT hTk hlt;rw[hins hka]at this;cases this
end
section
structure MvC (N:Nat) (d:zW):Prop where
 g:GrD N d
 kept:∀ k∈d.w.kept,k.slot<=d.slot
 sl:d.slot<=536870912+N
 stat:(d.status=1)↔0<d.diags.length
theorem MvC.mono {M:Nat} (h:MvC N d) (hN:N<=M):MvC M d:=⟨h.g.mono hN,h.kept,by have:=h.sl;omega,h.stat⟩
theorem MvC.tell (h:MvC N d) (x:Lz):MvC (N+1) (Yj d x):=⟨h.g.tell x,h.kept,by have:=h.sl;show d.slot<=_;omega,⟨fun _=>by show 0<(d.diags++[x]).length;simp,fun _=>rfl⟩⟩
theorem zbq (h:MvC N d) (hN:N<=3000) {s:zK} (hs:zx d.w.fs s) (he:(zf s.ino d.w.fs.xs).es = []) {p:Lz} (hp:qG p=true) (ha:atV d.w.fs p=(s,0)) :
  (Qa d (H9 p)).1.w.fs=zl d.w.fs s/\MvC (N+1) (Qa d (H9 p)).1/\(Qa d (H9 p)).1.diags=d.diags:=by
 have hsl:=h.g.b.slot.1;have hsm:=h.sl;have hh:=zx.ino h.g.b.wi.fs hs;have eo:Zl d (H9 p)=⟨7,d.slot+1,p,[],[]⟩:=rfl;have hm:HO ⟨7,d.slot+1,p,[],[]⟩=true:=by
  unfold HO;have e1:Vu 7=true:=rfl;have e2:zrG 7=false:=rfl;simp only[hp,e1,e2,if_true,Wt,W6];refine ⟨⟨⟨⟨⟨⟨by decide,by decide⟩,trivial⟩,by omega,by omega⟩,by simp⟩,by simp⟩,by simp⟩
 have hi:isV d.w.fs p true=(s,zf s.ino d.w.fs.xs,0):=by
  unfold isV;simp only[ha,hh];simp
 have hns:yL (d.slot+1) d.w.kept=false:=by
  unfold yL Ya;rw[Og];intro k hk q;have:=h.kept k hk;have q:k.slot=d.slot+1:=by simpa using q
  omega
 have hdo:doV d.w ⟨7,d.slot+1,p,[],[]⟩=(⟨zl d.w.fs s,qL ⟨d.slot+1,s.ino,false,[]⟩ d.w.kept,if (zf s.ino d.w.fs.xs).links=1 then qq { zf s.ino d.w.fs.xs with links:=0,parent:=0 } d.w.pool else d.w.pool⟩,0):=by
  unfold doV;rw[hm];simp only[AR,W0,Oi];rw[if_neg (by decide),if_neg (by decide),if_neg (by decide),if_neg (by decide),if_neg (by decide),if_neg (by decide)];unfold qW;simp only[hi];rw[if_neg (fun q=>q rfl),if_neg (fun q=>q he)];unfold Xp;rw[hns]
  rfl
 have hG:=h.g.add (o:=H9 p) (Wc _) (show ¬(7:Int)=3 by decide);have ea:Qa d (H9 p)=(⟨(doV d.w ⟨7,d.slot+1,p,[],[]⟩).1,d.ops++[⟨7,d.slot+1,p,[],[]⟩],d.diags,d.status,d.slot+1⟩,0):=by
  unfold Qa;rw[if_neg (by show ¬(7:Int)<7;decide),eo,if_neg (by rw[hdo];exact fun q=>q rfl),if_pos (by show 0<d.slot+1;omega)]
 rw[ea]at hG ⊢;refine ⟨by rw[hdo],⟨hG,fun k hk=>?_,by show d.slot+1<=536870912+((N+1:Nat):Int);omega,h.stat⟩,rfl⟩;have hk:k∈(doV d.w ⟨7,d.slot+1,p,[],[]⟩).1.kept:=hk;rw[hdo]at hk;show k.slot<=d.slot+1;rcases Ju.1 hk with rfl | hk
 ·exact Af _
 ·have:=h.kept k hk;omega
theorem za2 (d:zW) {a t:zK} {p q:Lz} (hp:qG p=true) (hq:qG q=true) (hap:atV d.w.fs p=(a,0)) (htq:atV d.w.fs q=(t,0)) (ha:zk a.ino d.w.fs.xs=true) (ht:zk t.ino d.w.fs.xs=false) (u1:YQ p q=false) (u2:YQ q p=false) :
  Qa d (J4 p q)=(⟨{ d.w with fs:=jN d.w.fs a t },d.ops++[J4 p q],d.diags,d.status,d.slot⟩,0):=by
 have e:Zl d (J4 p q)=J4 p q:=rfl;have hm:HO (J4 p q)=true:=by
  unfold HO J4;have e1:Vu 6=false:=rfl;have e2:zrG 6=true:=rfl;simp only[hp,hq,e1,e2,u1,u2]
  rfl
 have h1:(isV d.w.fs p true).1=a/\(isV d.w.fs p true).2.2=0:=by
  unfold isV;simp only[hap,ha];simp
 have h2:(isV d.w.fs q false).1=t/\(isV d.w.fs q false).2.2=0:=by
  unfold isV;simp only[htq,ht];simp
 have hdo:doV d.w (J4 p q)=({ d.w with fs:=jN d.w.fs a t },0):=by
  unfold doV;rw[hm];show JV d.w (J4 p q)=_;have a1:(J4 p q).a=p:=rfl;have a2:(J4 p q).b=q:=rfl;unfold JV;rw[a1,a2,if_neg (fun z=>z h1.2),if_neg (fun z=>z h2.2),h1.1,h2.1]
 unfold Qa;rw[if_neg (show ¬7<(J4 p q).kind by show ¬(7:Int)<6;decide),e,hdo]
 rfl
theorem zgj (h:MvC N d) (hN:N<=3000) {o v:Lz} {a t:zK} (ha:zx d.w.fs a) (hg:zeJ d.w.fs t) (hn:t.name≠[]) (hj:(mvJ d.w.fs o a t v).2=true) :
  (zlb d a t).w.fs=jN (if zk t.ino d.w.fs.xs then zl d.w.fs t else d.w.fs) a t/\MvC (N+2) (zlb d a t)/\(zlb d a t).diags=d.diags:=by
 have hi:=h.g.b.wi.fs;have hr:=h.g.r.fs;have hok:=h.g.ok (by omega);obtain ⟨j1,j2,j3⟩:=zlG hj;have ma:=Qq hr ha;obtain ⟨nA,vA,a2,lA⟩:=UX hok ha.has ha.kind;have eA:zX d.w.fs a=qy (nA++[a.name]):=by unfold zX;rw[a2,WO,QO nA _ fun y hy=>(JR (vA y hy)).1]
 have gT:zk t.dir d.w.fs.xs=true/\(zf t.dir d.w.fs.xs).kind=2/\t.ino=zL t.name (zf t.dir d.w.fs.xs).es:=hg.resolve_left hn;obtain ⟨nT,vT,t2,lT⟩:=UX hok gT.1 gT.2.1;have eT:zX d.w.fs t=qy (nT++[t.name]):=by unfold zX;rw[t2,WO,QO nT _ fun y hy=>(JR (vT y hy)).1]
 have hai:=zx.ino hi ha;have hG:=zly h.g a t;have fin:∀ (d1:zW),MvC (N+1) d1->Qa d1 (J4 (zX d.w.fs a) (zX d.w.fs t))=(⟨{ d1.w with fs:=jN d1.w.fs a t },d1.ops++[J4 (zX d.w.fs a) (zX d.w.fs t)],d1.diags,d1.status,d1.slot⟩,0)->GrD (N+2) (Qa d1 (J4 (zX d.w.fs a) (zX d.w.fs t))).1->MvC (N+2) (Qa d1 (J4 (zX d.w.fs a) (zX d.w.fs t))).1:=fun d1 h1 e hg=>by
  rw[e]at hg ⊢;exact ⟨hg,h1.kept,by have:=h1.sl;show d1.slot<=_;omega,h1.stat⟩
 unfold zlb at hG ⊢;cases hth:zk t.ino d.w.fs.xs with
 | true =>
  obtain ⟨k1,k2,_⟩:=j1 hth;have htT:=Yq hg hi hth hn;have mt:=Qq hr htT;have hu:=za0 hok hi hr ha lA lT gT.1 gT.2.1 (fun x hx=>by
   have:=gT.2.2;unfold zL at this;rw[hx]at this;have this:t.ino=x:=this;rw[←this];exact ⟨fun q=>k1 q.symm,k2⟩) j3 vA vT ma mt
  rw[←eA,←eT]at hu;obtain ⟨q1,q2⟩:=Qm hok gT.1 gT.2.1 mt;have e0:(⟨t.dir,t.name,zL t.name (zf t.dir d.w.fs.xs).es⟩:zK)=t:=by rw[←gT.2.2]
  rw[e0]at q2;obtain ⟨s1,s2,s3⟩:=zbq h hN htT k2 q1 q2;rw[hth,if_pos rfl]at hG;rw[if_pos rfl,if_pos rfl];generalize (Qa d (H9 (zX d.w.fs t))).1=d1 at *;have hi1:=s2.g.b.wi.fs;obtain ⟨ha1,hn1⟩:=Gt hi htT k2 ha k1;obtain ⟨hf1,hn2⟩:=yn hi htT k2;have lA1:=yI hi htT k2 lA hn1;have lT1:=yI hi htT k2 lT hn2;rw[←s1]at ha1 hf1 lA1 lT1;obtain ⟨_,pA⟩:=uY hi1 lA1 ha1.has ha1.kind vA ma;obtain ⟨_,pT⟩:=uY hi1 lT1 hf1.has hf1.kind vT mt;have x1:zL a.name (zf a.dir d1.w.fs.xs).es=a.ino:=by unfold zL;rw[ha1.there]
  have x2:zL t.name (zf t.dir d1.w.fs.xs).es=0:=by
   have:=hf1.free;unfold Yo at this;rw[qC]at this;unfold zL;cases hq:jk zS.name t.name (zf t.dir d1.w.fs.xs).es with
   | none=>rfl
   | some e=>rw[hq]at this;cases this
  rw[x1,←eA]at pA;rw[x2,←eT]at pT;have hp:=(Qm hok ha.has ha.kind ma).1;have ez:zk (0:Int) d1.w.fs.xs=false:=by
   cases hq:zk (0:Int) d1.w.fs.xs with
   | false=>rfl
   | true=>exact absurd rfl (Xq hi1 hq)
  have ea:=za2 d1 hp q1 pA pT (zx.ino hi1 ha1) ez hu.1 hu.2;have ea:Qa d1 (J4 (zX d.w.fs a) (zX d.w.fs t))=(⟨{ d1.w with fs:=jN d1.w.fs a t },d1.ops++[J4 (zX d.w.fs a) (zX d.w.fs t)],d1.diags,d1.status,d1.slot⟩,0):=ea;refine ⟨by rw[ea,s1],fin d1 s2 ea hG,by rw[ea];exact s3⟩
 | false =>
  obtain ⟨mt,_⟩:=j2 hth;have h0:t.ino=0:=by
   rcases Classical.em (t.ino=0) with q | q
   ·exact q
   ·have hx:Yo t.name (zf t.dir d.w.fs.xs).es=true:=by
     unfold Yo;rw[qC];cases hq:jk zS.name t.name (zf t.dir d.w.fs.xs).es with
     | some e=>rfl
     | none=>have:=gT.2.2;unfold zL at this;rw[hq]at this;exact absurd this q
    have:=Qf hi gT.1 hx;rw[←gT.2.2,hth]at this;cases this
  have hfr:=kW hi hg h0 mt;have hu:=za0 hok hi hr ha lA lT gT.1 gT.2.1 (fun x hx=>by
   have:=hfr.free;unfold Yo at this;rw[qC,hx]at this;cases this) j3 vA vT ma mt
  rw[←eA,←eT]at hu;obtain ⟨q1,q2⟩:=Qm hok gT.1 gT.2.1 mt;have e0:(⟨t.dir,t.name,zL t.name (zf t.dir d.w.fs.xs).es⟩:zK)=t:=by rw[←gT.2.2]
  rw[e0]at q2;obtain ⟨p1,p2⟩:=Qm hok ha.has ha.kind ma;have x1:zL a.name (zf a.dir d.w.fs.xs).es=a.ino:=by unfold zL;rw[ha.there]
  rw[x1]at p2;have p2:atV d.w.fs (zX d.w.fs a)=(a,0):=p2;rw[hth,if_neg (by simp)]at hG;rw[if_neg (by simp),if_neg (by simp)];have ea:=za2 d p1 q1 p2 q2 hai hth hu.1 hu.2;refine ⟨by rw[ea],fin d (h.mono (by omega)) ea hG,by rw[ea]⟩
def mvR (b o:Lz) (f:FsV) (u v:Lz):FsV×Int×Int:=
 match mvS f b u v with
 | some e=>(f,e.1,e.2)
 | none =>
  if (mvJ f o (zq f b u false).1 (zq f b v false).1 v).2 then (jN (if zk (zq f b v false).1.ino f.xs then zl f (zq f b v false).1 else f) (zq f b u false).1 (zq f b v false).1,0,0)
  else (f,(mvJ f o (zq f b u false).1 (zq f b v false).1 v).1.1,(mvJ f o (zq f b u false).1 (zq f b v false).1 v).1.2)
theorem Gl (h:MvC N d) (hN:N<=3000) (b o u v:Lz) :
  (XL b o d u v).w.fs=(mvR b o d.w.fs u v).1/\MvC (N+2) (XL b o d u v)/\(XL b o d u v).diags=if (mvR b o d.w.fs u v).2.1≠0 then d.diags++[Jl 4 (mvR b o d.w.fs u v).2.1 u v (mvR b o d.w.fs u v).2.2] else d.diags:=by
 unfold XL mvR;cases hs:mvS d.w.fs b u v with
 | some e =>
  simp only;rw[if_pos (zlS hs)];exact ⟨rfl,(h.tell _).mono (by omega),rfl⟩
 | none =>
  simp only;obtain ⟨s1,s2,s3,s4,s5⟩:=zl2 hs;have ha:=Yq (Xx s1) h.g.b.wi.fs s2 s3;cases hj:(mvJ d.w.fs o (zq d.w.fs b u false).1 (zq d.w.fs b v false).1 v).2 with
  | true =>
   obtain ⟨g1,g2,g3⟩:=zgj h hN ha (Xx s4) s5 hj;rw[if_pos rfl,if_pos rfl];exact ⟨g1,g2,by rw[g3];rfl⟩
  | false =>
   simp only[W0,Oi];by_cases h0:(mvJ d.w.fs o (zq d.w.fs b u false).1 (zq d.w.fs b v false).1 v).1.1=0
   ·rw[if_pos h0,if_neg (fun q=>q h0)];exact ⟨rfl,h.mono (by omega),rfl⟩
   ·rw[if_neg h0,if_pos h0];exact ⟨rfl,(h.tell _).mono (by omega),rfl⟩
end
section
open CA CB
open Go.RowKit
def zdT (xs:List zo):Nat->Int->Int->Bool
 | 0,_,_=>false
 | m+1,d,o=>if d=o then true else zdT xs m (zf d xs).parent o
theorem MR {xs:List zo} {o:Int} (h:(zf 1 xs).parent=1) (ho:o≠1):∀ m,zdT xs m 1 o=false
 | 0=>rfl
 | m+1=>by
  unfold zdT;rw[if_neg (fun q=>ho q.symm),h];exact MR h ho m
theorem zgT (hok:okM f) (hr:FsR f) {o:Int} (ho:o≠1):∀ (A:List Lz) {d:Int} (m n:Nat),Qb f.xs A d->(zf d f.xs).kind=2->A.length<m->A.length<n->zdT f.xs n d o=UL f.xs m d o:=by
 intro A
 induction A using Nm with
 | nil =>
  intro d m n h hk hm hn;obtain ⟨m,rfl⟩:∃ q,m=q+1:=⟨m-1,by omega⟩;rcases h.inv with ⟨_,rfl⟩ | ⟨ms,z,m2,e,_⟩
  ·have g:=zj (Ja hk);rw[MR ((hr.node _ g.2.1).top g.2.2) ho];unfold UL;rw[if_neg (fun q=>ho q.symm),if_pos rfl]
  ·simp at e
 | snoc A q ih =>
  intro d m n h hk hm hn;rw[Wi,OF]at hm hn;obtain ⟨m,rfl⟩:∃ q,m=q+1:=⟨m-1,by omega⟩;obtain ⟨n,rfl⟩:∃ q,n=q+1:=⟨n-1,by omega⟩;rcases h.inv with ⟨e,_⟩ | ⟨ms,z,m2,e,h1,h2,h3,h4⟩
  ·simp at e
  ·obtain ⟨rfl,_⟩:=AP e rfl;have hin:=(zT h4).2;obtain ⟨rk,hed⟩:=hr.edge;have gz:=zj h2;have hp:=(hed _ gz.2.1 _ hin hk).1;rw[gz.2.2]at hp;have hp:(zf d f.xs).parent=z:=hp;have h1d:d≠1:=jb hok h2 hin;unfold zdT UL;by_cases hd:d=o
   ·rw[if_pos hd,if_pos hd]
   ·rw[if_neg hd,if_neg hd,if_neg h1d,hp];exact ih m n h1 h3 (by omega) (by omega)
theorem zjj (hok:okM f) (hr:FsR f) {a:zK} (ha:zx f a) {d:Int} (hk:(zf d f.xs).kind=2):zdT f.xs (f.xs.length+1) d a.ino=UL f.xs f.xs.length d a.ino:=by
 obtain ⟨ns,_,_,hl⟩:=UX hok (Ja hk) hk;have:=MT hok (zbx hl) (Ja hk) hk;exact zgT hok hr (jb hok ha.has (zT ha.there).2) ns _ _ hl hk this (by omega)
theorem uQ (f:FsV) (hs:f.xs.length<=100000) (d o:Int):Fun Tryz.prog G0 81 [.agg (fsC f),.sc (.int .i64 d),.sc (.int .i64 o)] (.sc (.bool (zdT f.xs (f.xs.length+1) d o))) 0:=by
 have hll:(zu f.xs).length=f.xs.length:=We ..;refine fon Tryz.func81 ?_;dsimp only[Tryz.f81];push_cast;refine loop (fun p:Nat×Int=>⟨[(1,.sc (.int .i64 p.2)),(2,.sc (.int .i64 o)),(3,.ptr 0 0),(6,.sc (.bool false)),(7,.sc (.int .i64 p.1))],[fsC f],0,0⟩) (fun p=>p.1<=f.xs.length+1/\zdT f.xs (f.xs.length+1) d o=zdT f.xs (f.xs.length+1-p.1) p.2 o) (fun p=>f.xs.length+1-p.1) (0,d) ⟨Wc _,rfl⟩ ?_ ?_
 ·exact wk
 rintro ⟨i,c⟩ ⟨h1,h2⟩;dsimp only at h1 h2;by_cases hi:i<f.xs.length+1
 ·have hi':=eq_true (show (i:Int)<=f.xs.length by omega);have hg:=qt (G:=G0) f c hs;have e:zdT f.xs (f.xs.length+1-i) c o=if c=o then true else zdT f.xs (f.xs.length+1-(i+1)) (zf c f.xs).parent o:=by
   rw[show f.xs.length+1-i=(f.xs.length+1-(i+1))+1 by omega];rfl
  rw[e]at h2;by_cases c1:c=o
  ·have c1':=eq_true c1;rw[if_pos c1]at h2;rw[h2];push_cast [hi',hll,c1'];exact dn
  ·have c1':=Wu c1;rw[if_neg c1]at h2;push_cast [hi',hll,c1'];refine cl hg ?_;push_cast
   repeat refine an ?_
   exact ⟨(i+1,(zf c f.xs).parent),⟨by dsimp only;omega,h2⟩,by dsimp only;omega,wk⟩
 ·have hi':=Wu (show ¬(i:Int)<=f.xs.length by omega);have e:zdT f.xs (f.xs.length+1-i) c o=false:=by rw[show f.xs.length+1-i=0 by omega];rfl
  rw[h2,e];push_cast [hi',hll];exact dn
theorem zca (f0 f:FsV) (hf:FsI f) (hs:FsS f) (a b:zK) (ha:zx f a) (hb:JF f b) (hb0:b.ino≠0) (hun:Fun Tryz.prog G0 91 [.agg (fsC f0),.agg (jt b)] (.agg (fsC f)) 0):Fun Tryz.prog G0 83 [.agg (fsC f0),.agg (jt a),.agg (jt b)] (.agg (fsC (jN f a b))) 0:=by
 have hai:=zx.ino hf ha;have hlen:=hs.len;have hga:=qt (G:=G0) f a.dir (by omega);rw[ha.has]at hga;have hwa:=YT (G:=G0) (zf a.dir f.xs).es a.name (by have:=hs.es ha.has;omega);have hda:=JO (G:=G0) f (qj (zf a.dir f.xs) (zi a.name (zf a.dir f.xs).es)) (by omega);obtain ⟨g1,hg1⟩:∃ g1,qr a.dir (zi a.name) f.xs=g1:=⟨_,rfl⟩;obtain ⟨g2,hg2⟩:∃ g2,qr b.dir (zZ b.name a.ino) g1=g2:=⟨_,rfl⟩;have hR1:qc g1:=by rw[←hg1];exact z8 hf.rises
 have hl1:g1.length=f.xs.length:=by rw[←hg1];exact jq hf.rises ha.has
 have hb1:zk b.dir g1=true:=by rw[←hg1,zP ha.has];exact hb.has
 have hl2:g2.length=f.xs.length:=by rw[←hg2,jq hR1 hb1,hl1]
 have hi2:zk a.ino g2=true:=by rw[←hg2,zP hb1,←hg1,zP ha.has];exact hai
 have hgb:=qt (G:=G0) ⟨f.maxI,f.maxB,f.next,g1⟩ b.dir (by simp only;omega);simp only at hgb;rw[hb1]at hgb;have hres:(zf b.dir g1).es.length<=10000:=by
  rw[←hg1,j6 ha.has];split
  ·show (JH zS.name _ _).length<=10000;have:=YH (key:=zS.name) a.name (zf a.dir f.xs).es;have:=hs.es ha.has;omega
  ·exact hs.es hb.has
 have hwb:=yz (G:=G0) (zf b.dir g1).es b.name a.ino (by omega);have hdb:=JO (G:=G0) ⟨f.maxI,f.maxB,f.next,g1⟩ (qj (zf b.dir g1) (zZ b.name a.ino (zf b.dir g1).es)) (by simp only;omega);have hgx:=qt (G:=G0) ⟨f.maxI,f.maxB,f.next,g2⟩ a.ino (by simp only;omega);simp only at hgx;rw[hi2]at hgx;have e0:jN f a b=if (zf a.ino g2).kind=2 then ⟨f.maxI,f.maxB,f.next,qq { zf a.ino g2 with parent:=b.dir } g2⟩ else ⟨f.maxI,f.maxB,f.next,g2⟩:=by unfold jN;rw[hg1,hg2]
 have hda':Fun Tryz.prog G0 58 [.agg (fsC f),.agg (J0 (qj (zf a.dir f.xs) (zi a.name (zf a.dir f.xs).es)))] (.agg [.sc (.int .i64 f.maxI),.sc (.int .i64 f.maxB),.sc (.int .i64 f.next),.own 0 64 6 (zu g1)]) 1:=by rw[←hg1];exact hda
 have hdb':Fun Tryz.prog G0 58 [.agg (fsC ⟨f.maxI,f.maxB,f.next,g1⟩),.agg (J0 (qj (zf b.dir g1) (zZ b.name a.ino (zf b.dir g1).es)))] (.agg [.sc (.int .i64 f.maxI),.sc (.int .i64 f.maxB),.sc (.int .i64 f.next),.own 0 64 6 (zu g2)]) 1:=by rw[←hg2];exact hdb
 have hb0':=Wu hb0;by_cases hk:(zf a.ino g2).kind=2
 ·rw[if_pos hk]at e0;have hk':=eq_true hk;have hd:=JO (G:=G0) ⟨f.maxI,f.maxB,f.next,g2⟩ { zf a.ino g2 with parent:=b.dir } (by simp only;omega);refine fon Tryz.func83 ?_;dsimp only[Tryz.f83];push_cast [hb0'];refine cl hun ?_;push_cast;refine cl hga ?_;push_cast;refine cl hwa ?_;push_cast;refine cl hda' ?_;push_cast;refine cl hgb ?_;push_cast;refine cl hwb ?_;push_cast;refine cl hdb' ?_;push_cast;refine cl hgx ?_;push_cast [hk'];refine cl hd ?_;push_cast;exact dn (by push_cast [ze,zd,CLe,zg,e0])
 ·rw[if_neg hk]at e0;have hk':=Wu hk;refine fon Tryz.func83 ?_;dsimp only[Tryz.f83];push_cast [hb0'];refine cl hun ?_;push_cast;refine cl hga ?_;push_cast;refine cl hwa ?_;push_cast;refine cl hda' ?_;push_cast;refine cl hgb ?_;push_cast;refine cl hwb ?_;push_cast;refine cl hdb' ?_;push_cast;refine cl hgx ?_;push_cast [hk'];exact dn (by push_cast [ze,zd,CLe,zg,e0])
end
section
open CA CB
open Go.RowKit
theorem zbT (f:FsV) (hf:FsI f) (hs:FsS f) (p:Lz) (hp:p.length<=100000):Fun Tryz.prog G0 223 [.agg (fsC f),.str p] (.tup [.agg (J0 (qO f p).1),.sc (.int .i64 (qO f p).2)]) 0:=by
 have h1:=NO f hf hs p (by omega);have h2:=jm (G:=G0) f (atV f p).1.ino (by have:=hs.len;omega) hf.rises;by_cases c1:(atV f p).2=0
 ·have c1':=eq_true c1;cases hh:zk (atV f p).1.ino f.xs with
  | false =>
   have h0:(atV f p).1.ino=0:=OU fun hne=>by
    have:zk (atV f p).1.ino f.xs=true:=by
     unfold atV at hne ⊢;split at hne
     ·rename_i q;rw[if_pos q];exact vH hf _ _ (fun _=>hf.root) hne
     ·exact absurd rfl hne
    rw[this]at hh;cases hh
   have e:qO f p=(Mn,1):=by unfold qO;rw[if_neg (fun h=>h c1),if_pos h0]
   rw[c1]at h1;rw[hh]at h2;refine fon Tryz.func223 ?_;dsimp only[Tryz.f223];push_cast;refine cl h1 ?_;push_cast;refine cl h2 ?_;push_cast;exact dn (by push_cast [ze,zd,CLe,zg,e,Mn])
  | true =>
   have h0:=Xq hf hh;have e:qO f p=(zf (atV f p).1.ino f.xs,0):=by unfold qO;rw[if_neg (fun h=>h c1),if_neg h0]
   rw[c1]at h1;rw[hh]at h2;refine fon Tryz.func223 ?_;dsimp only[Tryz.f223];push_cast;refine cl h1 ?_;push_cast;refine cl h2 ?_;push_cast;exact dn (by push_cast [ze,zd,CLe,zg,e])
 ·have e:qO f p=(Mn,(atV f p).2):=by unfold qO;rw[if_pos c1]
  refine fon Tryz.func223 ?_;dsimp only[Tryz.f223];push_cast;refine cl h1 ?_;push_cast [c1];exact dn (by push_cast [ze,zd,CLe,zg,e,Mn])
theorem zhB (f:FsV) (hf:FsI f) (hs:FsS f) (p:Lz) (hp:p.length<=100000):Fun Tryz.prog G0 176 [.agg (fsC f),.str p] (.tup [.sc (.int .i64 (Jz f p).1),.sc (.int .i64 (Jz f p).2)]) 0:=by
 have h1:=zbT f hf hs p hp;by_cases c1:(qO f p).2=0
 ·have d1:(atV f p).2=0/\(atV f p).1.ino≠0/\(qO f p).1=zf (atV f p).1.ino f.xs:=by
   unfold qO at c1 ⊢;split at c1
   ·rename_i h;exact absurd c1 h
   ·rename_i h;split at c1
    ·exact absurd c1 (show ¬(1:Int)=0 by decide)
    ·rename_i h';rw[if_neg h,if_neg h'];exact ⟨Wy.1 h,h',rfl⟩
  rw[c1]at h1;by_cases c2:(qO f p).1.kind=2
  ·have e:Jz f p=((qO f p).1.ino,0):=by unfold Jz;rw[if_neg (fun h=>h d1.1),if_neg d1.2.1,if_neg (by rw[←d1.2.2];exact fun h=>h c2),d1.2.2]
   refine fon Tryz.func176 ?_;dsimp only[Tryz.f176];push_cast;refine cl h1 ?_;push_cast [c2];exact dn (by push_cast [ze,zd,CLe,zg,e])
  ·have e:Jz f p=(0,3):=by unfold Jz;rw[if_neg (fun h=>h d1.1),if_neg d1.2.1,if_pos (by rw[←d1.2.2];exact c2)]
   refine fon Tryz.func176 ?_;dsimp only[Tryz.f176];push_cast;refine cl h1 ?_;push_cast [c2];exact dn (by push_cast [ze,zd,CLe,zg,e])
 ·have e:Jz f p=(0,(qO f p).2):=by
   unfold Jz qO;unfold qO at c1;split
   ·rfl
   ·rename_i h;rw[if_neg h]at c1;split
    ·rfl
    ·rename_i h';rw[if_neg h']at c1;exact absurd rfl c1
  refine fon Tryz.func176 ?_;dsimp only[Tryz.f176];push_cast;refine cl h1 ?_;push_cast [c1];exact dn (by push_cast [ze,zd,CLe,zg,e])
theorem zeK {G:zt} (a b:List Lz) (la:a.length<=90000) (lb:b.length<=90000):Fun Tryz.prog G 70 [.sl 1 [[.sl 1 (zE a)],[.sl 1 (zE b)]]] (.sl 1 (zE (a++b))) 0:=by
 have hl:∀ l:List Lz,∀ r∈zE l,r.length=1:=fun l r hr=>by obtain ⟨x,_,rfl⟩:=WS.1 hr;rfl
 have hs:∀ l:List Lz,ji (zE l):=fun l r hr=>by obtain ⟨x,_,rfl⟩:=WS.1 hr;rfl
 have hla:(zE a).length=a.length:=We ..;have hlb:(zE b).length=b.length:=We ..;by_cases h0:0<a.length+b.length
 ·have h:=yo (G:=G) (zE a) (zE b) (hl a) (hl b) (hs a) (hs b) (by omega) (by omega) (by omega);have e:zE a++zE b=zE (a++b):=WY.symm;rw[e]at h;refine (h.fun (r:=.own 0 9 1 (zE (a++b))) (n:=1) (by
   rintro r bx m ⟨rfl,c,B,hB,rfl,rfl⟩;exact ⟨[(0,9,1,zE (a++b),c)],[.inl 0],hB.ok rfl (by rw[We,Wi];exact h0) (hl _),rfl,rfl,by push_cast [ze,zd,CLe,zg,We]⟩)).weak (by push_cast [ze,zd,CLe,zg])
 ·have ha:a = []:=WP (by omega);have hb:b = []:=WP (by omega);subst ha hb;exact xD
end
section
open CA CB
open Go.RowKit
abbrev zme (f:FsV) (fol dir:Bool) (todo:Xe) (s:zK) (n:Int):List C:=[.sc (.int .i64 f.maxI),.sc (.int .i64 f.maxB),.sc (.int .i64 f.next),.sl 6 (zu f.xs),.sc (.bool fol),.sc (.bool dir),.sl 1 (zE todo),.sc (.int .i64 s.dir),.str s.name,.sc (.int .i64 s.ino),.sc (.int .i64 n)]
abbrev XS:List C:=[.any,.any,.any,.any,.any,.any,.any,.any,.any,.any,.any]
theorem Mg (f:FsV) (fol dir:Bool) (todo:Xe) (s:zK) (n:Nat) (x d:zo) (hx:x.data.length<=10000) (ht:todo.length<=80000) (hn:n<=40):YJ Tryz.prog G0 178 [.ptr 0 0,.agg (J0 x),.agg (J0 d)] [zme f fol dir todo s n] 0 (fun r bx m=>m=0 /\
  ((n=40/\r = .sc (.int .i64 6)/\bx = [XS])∨(n<40/\X7 x.data=true/\r = .sc (.int .i64 7)/\bx = [XS])∨(n<40/\X7 x.data=false/\r = .sc (.int .i64 0)/\bx = [zme f fol (dir||(qI x.data&&decide (todo = []))) (zn x.data++todo) ⟨0,[],if kI x.data then 1 else d.ino⟩ (n+1:Nat)]))):=by
 by_cases h40:n=40
 ·have hc:((40:Int)<(n:Int)+1)=True:=eq_true (by omega);refine foX (fun _=>[]) Tryz.func178 ?_;dsimp only[Tryz.f178];push_cast [hc]
  repeat refine an ?_
  exact ⟨_,[XS],0,⟨⟨rfl,.inl ⟨h40,rfl,rfl⟩⟩,Wb _⟩,[],rfl,rfl,by push_cast [ze,zd,CLe,zg],by push_cast [ze,zd,CLe,zg]⟩
 have hc:((40:Int)<(n:Int)+1)=False:=Wu (by omega);have hlg:=zaZ x.data (by omega);cases hl:X7 x.data with
 | true =>
  rw[hl]at hlg;refine foX (fun _=>[]) Tryz.func178 ?_;dsimp only[Tryz.f178];push_cast [hc]
  repeat refine an ?_
  refine cl hlg ?_;push_cast;exact ⟨_,[XS],0,⟨⟨rfl,.inr (.inl ⟨by omega,rfl,rfl⟩)⟩,Wb _⟩,[],rfl,rfl,by push_cast [ze,zd,CLe,zg],by push_cast [ze,zd,CLe,zg]⟩
 | false =>
  rw[hl]at hlg;have hrd:Fun Tryz.prog G0 125 [.str x.data] (.agg [qQ (kI x.data),.own 0 9 1 (zE (zn x.data)),qQ (qI x.data)]) 1:=UM x.data (by omega);have hnl:=qw x.data;have hcc:=zeK (G:=G0) (zn x.data) todo (by omega) (by omega);have htl:(zE todo).length=todo.length:=We ..;have hte:((todo.length:Int)=0)=(todo = []):=propext ⟨fun h=>WP (by omega),fun h=>by rw[h];rfl⟩;generalize zn x.data=nm at hrd hcc;have fin:∀ (b a:Bool),(dir||(qI x.data&&decide (todo = [])))=b->kI x.data=a->YJ Tryz.prog G0 178 [.ptr 0 0,.agg (J0 x),.agg (J0 d)] [zme f fol dir todo s n] 0 (fun r bx m=>m=0/\r = .sc (.int .i64 0)/\bx = [zme f fol b (nm++todo) ⟨0,[],if a then 1 else d.ino⟩ (n+1:Nat)]):=fun b a hb ha=>by
   rw[ha]at hrd;by_cases ht0:todo = []
   ·have ht0':=eq_true ht0;cases dir<;>cases hs:qI x.data<;>rw[hs]at hrd hb<;>cases a
    all_goals
     simp[ht0]at hb;subst hb;refine foX (fun i=>if i=8 then [false,false,false,false,false,false,false,false,false,false,false,true] else []) Tryz.func178 ?_;dsimp only[Tryz.f178];push_cast [hc]
     repeat refine an ?_
     refine cl hlg ?_;push_cast;refine cl hrd ?_;push_cast [htl,hte,ht0'];refine cl hcc ?_;push_cast;exact ⟨_,_,0,⟨⟨rfl,rfl,rfl⟩,Wb _⟩,[],rfl,rfl,by push_cast [ze,zd,CLe,zg],by push_cast [ze,zd,CLe,zg]⟩
   ·have ht0':=Wu ht0;cases dir<;>cases hs:qI x.data<;>rw[hs]at hrd hb<;>cases a
    all_goals
     simp[ht0]at hb;subst hb;refine foX (fun i=>if i=8 then [false,false,false,false,false,false,false,false,false,false,false,true] else []) Tryz.func178 ?_;dsimp only[Tryz.f178];push_cast [hc]
     repeat refine an ?_
     refine cl hlg ?_;push_cast;refine cl hrd ?_;push_cast [htl,hte,ht0'];refine cl hcc ?_;push_cast;exact ⟨_,_,0,⟨⟨rfl,rfl,rfl⟩,Wb _⟩,[],rfl,rfl,by push_cast [ze,zd,CLe,zg],by push_cast [ze,zd,CLe,zg]⟩
  have h:=fin _ _ rfl rfl;exact ⟨h.1,fun R L vs a1 a2 a3 a4 a5 a6 a7=>(h.2 R L vs a1 a2 a3 a4 a5 a6 a7).mono fun _ _=>by
   rintro ⟨r,bx,m,⟨⟨q1,q2,q3⟩,q4⟩,q5⟩;exact ⟨r,bx,m,⟨⟨q1,.inr (.inr ⟨by omega,rfl,q2,q3⟩)⟩,q4⟩,q5⟩⟩
theorem zkA (f:FsV) (hf:FsI f) (hs:FsS f) (fol dir:Bool) (todo:Xe) (s:zK) (n:Nat) (lk:zo->zo->Xe->Bool->zK×Int):YJ Tryz.prog G0 179 [.ptr 0 0] [zme f fol dir todo s n] 0 (fun r bx m=>m=0/\r = .tup [.agg (jt (onL f fol lk [] s dir).1),.sc (.int .i64 (onL f fol lk [] s dir).2)]/\bx = [XS]):=by
 have hg:=jm (G:=G0) f s.ino (by have:=hs.len;omega) hf.rises;cases hh:zk s.ino f.xs with
 | false =>
  have e:onL f fol lk [] s dir=(s,0):=by unfold onL;rw[if_neg (fun h=>by rw[hh]at h;cases h.1)]
  rw[hh]at hg;refine foX (fun i=>if i=1 then qS 13 14 else []) Tryz.func179 ?_;dsimp only[Tryz.f179];push_cast;refine cl hg ?_;push_cast;exact ⟨_,[XS],0,⟨⟨rfl,rfl,rfl⟩,Wb _⟩,[],rfl,rfl,by push_cast [ze,zd,CLe,zg],by push_cast [ze,zd,CLe,zg,e]⟩
 | true =>
  rw[hh]at hg;cases dir with
  | false =>
   have e:onL f fol lk [] s false=(s,0):=by unfold onL;rw[if_neg (fun h=>by cases h.2.1)]
   refine foX (fun i=>if i=1 then qS 13 14 else []) Tryz.func179 ?_;dsimp only[Tryz.f179];push_cast;refine cl hg ?_;push_cast;exact ⟨_,[XS],0,⟨⟨rfl,rfl,rfl⟩,Wb _⟩,[],rfl,rfl,by push_cast [ze,zd,CLe,zg],by push_cast [ze,zd,CLe,zg,e]⟩
  | true =>
   by_cases hk:(zf s.ino f.xs).kind=2
   ·have e:onL f fol lk [] s true=(s,0):=by unfold onL;rw[if_neg (fun h=>h.2.2 hk)]
    have hk':=eq_true hk;refine foX (fun i=>if i=1 then qS 13 14 else []) Tryz.func179 ?_;dsimp only[Tryz.f179];push_cast;refine cl hg ?_;push_cast [hk'];exact ⟨_,[XS],0,⟨⟨rfl,rfl,rfl⟩,Wb _⟩,[],rfl,rfl,by push_cast [ze,zd,CLe,zg],by push_cast [ze,zd,CLe,zg,e]⟩
   ·have e:onL f fol lk [] s true=(qu,3):=by unfold onL;rw[if_pos ⟨hh,rfl,hk⟩]
    have hk':=Wu hk;refine foX (fun i=>if i=1 then qS 13 14 else []) Tryz.func179 ?_;dsimp only[Tryz.f179];push_cast;refine cl hg ?_;push_cast [hk'];exact ⟨_,[XS],0,⟨⟨rfl,rfl,rfl⟩,Wb _⟩,[],rfl,rfl,by push_cast [ze,zd,CLe,zg],by push_cast [ze,zd,CLe,zg,e,qu]⟩
theorem zeS (f:FsV) (hf:FsI f) (hr:FsR f) (hs:FsS f) (fol dir0:Bool) (todo0:Xe) (s0:zK) (ht0:todo0.length<=3000) (hd:∀ x∈f.xs,x.kind=3->x.data.length<=1000) (hs0:s0.ino≠0->zk s0.ino f.xs=true) (R:zK×Int) (hR:onN f fol 40 todo0 s0 dir0=R):YJ Tryz.prog G0 147 [.ptr 0 0] [zme f fol dir0 todo0 s0 (0:Nat)] 0 (fun r bx m=>m=0/\r = .tup [.agg (jt R.1),.sc (.int .i64 R.2)]/\∃ X,bx = [XS]++X):=by
 refine foX (fun i=>if i=4 then qS 13 14 else []) Tryz.func147 ?_;dsimp only[Tryz.f147];push_cast;refine loop (fun p:Xe×zK×Bool×Nat=>⟨[(0,.ptr 0 0),(2,.ptr 1 0)],[zme f fol p.2.2.1 p.1 p.2.1 p.2.2.2,[.any,.any,.any]],0,0⟩)
  (fun p=>onN f fol (40-p.2.2.2) p.1 p.2.1 p.2.2.1=R/\p.2.2.2<=40/\p.1.length<=3000+p.2.2.2*1000/\(p.2.1.ino≠0->zk p.2.1.ino f.xs=true)) (fun p=>(41-p.2.2.2)*100000+p.1.length) (todo0,s0,dir0,0) ⟨hR,Wc _,by dsimp only;omega,hs0⟩ ?_ ?_
 ·exact wk
 rintro ⟨todo,s,dir,n⟩ ⟨hon,hn,htl,hin⟩;dsimp only at hon hn htl hin;rw[kg]at hon;cases todo with
 | nil =>
  have he:=zkA f hf hs fol dir [] s n (lkN f fol (40-n));rw[hon]at he;push_cast;refine ju [0] [] he rfl (by decide) (by decide) (by simp) (by push_cast) rfl (fun r bx' m hp=>?_);obtain ⟨rfl,rfl,rfl⟩:=hp;push_cast;exact ⟨_,[XS],0,⟨⟨rfl,rfl,[],rfl⟩,by simp⟩,[],rfl,rfl,by push_cast [ze,zd,CLe,zg],by push_cast [ze,zd,CLe,zg]⟩
 | cons nm rest =>
  have hg:=jm (G:=G0) f s.ino (by have:=hs.len;omega) hf.rises;have hpos:((0:Int)<(rest.length:Int)+1)=True:=eq_true (by omega);have hrl:(zE rest).length=rest.length:=We ..;have hl1:((1:Int)<=(rest.length:Int)+1)=True:=eq_true (by omega);rw[Wh]at htl;unfold onL at hon;cases hh:zk s.ino f.xs with
  | false =>
   have h0:s.ino=0:=OU fun q=>by rw[hin q]at hh;cases hh
   rw[if_pos h0]at hon;rw[hh]at hg;rw[←hon];push_cast [hpos,hl1]
   repeat refine an ?_
   refine cl hg ?_;push_cast;exact ⟨_,[XS],0,⟨⟨rfl,rfl,[],rfl⟩,by simp⟩,[],rfl,rfl,by push_cast [ze,zd,CLe,zg],by push_cast [ze,zd,CLe,zg,qu]⟩
  | true =>
   have hgs:=zj hh;rw[if_neg (Xq hf hh)]at hon;rw[hh]at hg;by_cases hk2:(zf s.ino f.xs).kind=2
   case neg =>
    have hk2':=Wu hk2;rw[if_pos hk2]at hon;rw[←hon];push_cast [hpos,hl1]
    repeat refine an ?_
    refine cl hg ?_;push_cast [hk2'];exact ⟨_,[XS],0,⟨⟨rfl,rfl,[],rfl⟩,by simp⟩,[],rfl,rfl,by push_cast [ze,zd,CLe,zg],by push_cast [ze,zd,CLe,zg,qu]⟩
   have hk2':=eq_true hk2;rw[if_neg (fun q=>q hk2)]at hon;by_cases n1:nm = [46]
   ·have n1':=eq_true n1;rw[if_pos n1]at hon;push_cast [hpos,hl1]
    repeat refine an ?_
    refine cl hg ?_;push_cast [hk2',n1'];exact ⟨(rest,⟨0,[],(zf s.ino f.xs).ino⟩,dir,n),⟨by dsimp only;rw[kg];exact hon,hn,by dsimp only;omega,fun _=>by dsimp only;rw[hgs.2.2];exact hh⟩,by dsimp only;omega,wk⟩
   have n1':=Wu n1;rw[if_neg n1]at hon;by_cases n2:nm = [46,46]
   ·have n2':=eq_true n2;rw[if_pos n2]at hon;push_cast [hpos,hl1]
    repeat refine an ?_
    refine cl hg ?_;push_cast [hk2',n1',n2'];exact ⟨(rest,⟨0,[],(zf s.ino f.xs).parent⟩,dir,n),⟨by dsimp only;rw[kg];exact hon,hn,by dsimp only;omega,fun _=>zhy hf hr hh hk2⟩,by dsimp only;omega,wk⟩
   have n2':=Wu n2;rw[if_neg n2]at hon;have hfd:=x8 (G:=G0) (zf s.ino f.xs).es nm (by have:=hs.es hh;omega) (hf.es _ hgs.2.1);have hg2:=jm (G:=G0) f (zL nm (zf s.ino f.xs).es) (by have:=hs.len;omega) hf.rises;have hin2:zL nm (zf s.ino f.xs).es≠0->zk (zL nm (zf s.ino f.xs).es) f.xs=true:=fun q=>by
    have hx:Yo nm (zf s.ino f.xs).es=true:=by
     unfold Yo;rw[qC];cases hq:jk zS.name nm (zf s.ino f.xs).es with
     | some e=>rfl
     | none=>unfold zL at q;rw[hq]at q;exact absurd rfl q
    exact Qf hf hh hx
   by_cases hk3:(zf (zL nm (zf s.ino f.xs).es) f.xs).kind=3
   case neg =>
    have hk3':=Wu hk3;have hg1:((0:Int)<(rest.length:Int))=((0:Int)<(rest.length:Int)):=rfl;rw[if_pos (.inr (.inl hk3))]at hon;push_cast [hpos,hl1,hk2',n1',n2',hk3']
    repeat refine an ?_
    refine cl hg ?_;push_cast [hk2',n1',n2'];refine cl hfd ?_;push_cast;refine cl hg2 ?_;push_cast [hk3',hrl];exact ⟨(rest,⟨(zf s.ino f.xs).ino,nm,zL nm (zf s.ino f.xs).es⟩,dir,n),⟨by dsimp only;rw[kg];exact hon,hn,by dsimp only;omega,hin2⟩,by dsimp only;omega,wk⟩
   have hk3':=eq_true hk3;have hx2:zk (zL nm (zf s.ino f.xs).es) f.xs=true:=by
    cases hq:zk (zL nm (zf s.ino f.xs).es) f.xs with
    | true=>rfl
    | false=>rw[(Jn hq).2]at hk3;exact absurd hk3 (by decide)
   have hxe:Yo nm (zf s.ino f.xs).es=true:=by
    cases hq:Yo nm (zf s.ino f.xs).es with
    | true=>rfl
    | false =>
     have e0:zL nm (zf s.ino f.xs).es=0:=by
      unfold zL;unfold Yo at hq;rw[qC]at hq;cases hz:jk zS.name nm (zf s.ino f.xs).es with
      | none=>rfl
      | some e=>rw[hz]at hq;cases hq
     rw[e0]at hx2;exact absurd rfl (Xq hf hx2)
   have hxd:=hd _ (zj hx2).2.1 hk3;by_cases hr0:rest = []
   ·have hg1:((0:Int)<(rest.length:Int))=False:=Wu (by rw[hr0];simp);cases fol with
    | false =>
     cases dir with
     | false =>
      rw[if_pos (.inr (.inr ⟨hr0,rfl,rfl⟩))]at hon;push_cast [hpos,hl1,hk2',n1',n2',hk3',hg1]
      repeat refine an ?_
      refine cl hg ?_;push_cast [hk2',n1',n2'];refine cl hfd ?_;push_cast;refine cl hg2 ?_;push_cast [hk3',hrl,hg1];exact ⟨(rest,⟨(zf s.ino f.xs).ino,nm,zL nm (zf s.ino f.xs).es⟩,false,n),⟨by dsimp only;rw[kg];exact hon,hn,by dsimp only;omega,hin2⟩,by dsimp only;omega,wk⟩
     | true =>
      rw[if_neg (by rintro (q | q | q);exact absurd (hxe.symm.trans q) (by simp);exact q hk3;cases q.2.2)]at hon;have hlk:=Mg f false true rest s n (zf (zL nm (zf s.ino f.xs).es) f.xs) (zf s.ino f.xs) (by omega) (by omega) hn;push_cast [hpos,hl1,hk2',n1',n2',hk3',hg1]
      repeat refine an ?_
      refine cl hg ?_;push_cast [hk2',n1',n2'];refine cl hfd ?_;push_cast;refine cl hg2 ?_;push_cast [hk3',hrl,hg1];refine ju [0] [] hlk rfl (by decide) (by decide) (by simp) (by push_cast) (by push_cast) (fun r bx' m hp=>?_);obtain ⟨rfl,⟨q1,rfl,rfl⟩ | ⟨q1,q2,rfl,rfl⟩ | ⟨q1,q2,rfl,rfl⟩⟩:=hp
      ·push_cast;have hk0:40-n=0:=by omega
       rw[hk0]at hon;have hon:(qu,(6:Int))=R:=hon;rw[←hon];exact ⟨_,[XS],0,⟨⟨rfl,rfl,[],rfl⟩,by simp⟩,[],rfl,rfl,by push_cast [ze,zd,CLe,zg],by push_cast [ze,zd,CLe,zg,qu]⟩
      ·push_cast;have hk0:40-n=(39-n)+1:=by omega
       rw[hk0,QG,if_pos q2]at hon;rw[←hon];exact ⟨_,[XS],0,⟨⟨rfl,rfl,[],rfl⟩,by simp⟩,[],rfl,rfl,by push_cast [ze,zd,CLe,zg],by push_cast [ze,zd,CLe,zg,qu]⟩
      ·push_cast;have hk0:40-n=(39-n)+1:=by omega
       have hk1:40-(n+1)=39-n:=by omega
       rw[hk0,QG,if_neg (by rw[q2];simp)]at hon;have hnl:=qw (zf (zL nm (zf s.ino f.xs).es) f.xs).data;exact ⟨(zn (zf (zL nm (zf s.ino f.xs).es) f.xs).data++rest,⟨0,[],if kI (zf (zL nm (zf s.ino f.xs).es) f.xs).data then 1 else (zf s.ino f.xs).ino⟩,true||(qI (zf (zL nm (zf s.ino f.xs).es) f.xs).data&&decide (rest = [])),n+1),⟨by dsimp only;rw[hk1];exact hon,by dsimp only;omega,by dsimp only;rw[Wi];omega,fun _=>by
        dsimp only;split
        ·exact hf.root
        ·rw[hgs.2.2];exact hh⟩,by dsimp only;rw[Wi];omega,wk⟩
    | true =>
     rw[if_neg (by rintro (q | q | q);exact absurd (hxe.symm.trans q) (by simp);exact q hk3;cases q.2.1)]at hon;have hlk:=Mg f true dir rest s n (zf (zL nm (zf s.ino f.xs).es) f.xs) (zf s.ino f.xs) (by omega) (by omega) hn;push_cast [hpos,hl1,hk2',n1',n2',hk3',hg1]
     repeat refine an ?_
     refine cl hg ?_;push_cast [hk2',n1',n2'];refine cl hfd ?_;push_cast;refine cl hg2 ?_;push_cast [hk3',hrl,hg1];refine ju [0] [] hlk rfl (by decide) (by decide) (by simp) (by push_cast) (by push_cast) (fun r bx' m hp=>?_);obtain ⟨rfl,⟨q1,rfl,rfl⟩ | ⟨q1,q2,rfl,rfl⟩ | ⟨q1,q2,rfl,rfl⟩⟩:=hp
     ·push_cast;have hk0:40-n=0:=by omega
      rw[hk0]at hon;have hon:(qu,(6:Int))=R:=hon;rw[←hon];exact ⟨_,[XS],0,⟨⟨rfl,rfl,[],rfl⟩,by simp⟩,[],rfl,rfl,by push_cast [ze,zd,CLe,zg],by push_cast [ze,zd,CLe,zg,qu]⟩
     ·push_cast;have hk0:40-n=(39-n)+1:=by omega
      rw[hk0,QG,if_pos q2]at hon;rw[←hon];exact ⟨_,[XS],0,⟨⟨rfl,rfl,[],rfl⟩,by simp⟩,[],rfl,rfl,by push_cast [ze,zd,CLe,zg],by push_cast [ze,zd,CLe,zg,qu]⟩
     ·push_cast;have hk0:40-n=(39-n)+1:=by omega
      have hk1:40-(n+1)=39-n:=by omega
      rw[hk0,QG,if_neg (by rw[q2];simp)]at hon;have hnl:=qw (zf (zL nm (zf s.ino f.xs).es) f.xs).data;exact ⟨(zn (zf (zL nm (zf s.ino f.xs).es) f.xs).data++rest,⟨0,[],if kI (zf (zL nm (zf s.ino f.xs).es) f.xs).data then 1 else (zf s.ino f.xs).ino⟩,dir||(qI (zf (zL nm (zf s.ino f.xs).es) f.xs).data&&decide (rest = [])),n+1),⟨by dsimp only;rw[hk1];exact hon,by dsimp only;omega,by dsimp only;rw[Wi];omega,fun _=>by
       dsimp only;split
       ·exact hf.root
       ·rw[hgs.2.2];exact hh⟩,by dsimp only;rw[Wi];omega,wk⟩
   ·have hg1:((0:Int)<(rest.length:Int))=True:=eq_true (by have:=WB.2 hr0;omega);rw[if_neg (by rintro (q | q | q);exact absurd (hxe.symm.trans q) (by simp);exact q hk3;exact hr0 q.1)]at hon;have hlk:=Mg f fol dir rest s n (zf (zL nm (zf s.ino f.xs).es) f.xs) (zf s.ino f.xs) (by omega) (by omega) hn;push_cast [hpos,hl1,hk2',n1',n2',hk3',hg1]
    repeat refine an ?_
    refine cl hg ?_;push_cast [hk2',n1',n2'];refine cl hfd ?_;push_cast;refine cl hg2 ?_;push_cast [hk3',hrl,hg1];refine ju [0] [] hlk rfl (by decide) (by decide) (by simp) (by push_cast) (by push_cast) (fun r bx' m hp=>?_);obtain ⟨rfl,⟨q1,rfl,rfl⟩ | ⟨q1,q2,rfl,rfl⟩ | ⟨q1,q2,rfl,rfl⟩⟩:=hp
    ·push_cast;have hk0:40-n=0:=by omega
     rw[hk0]at hon;have hon:(qu,(6:Int))=R:=hon;rw[←hon];exact ⟨_,[XS],0,⟨⟨rfl,rfl,[],rfl⟩,by simp⟩,[],rfl,rfl,by push_cast [ze,zd,CLe,zg],by push_cast [ze,zd,CLe,zg,qu]⟩
    ·push_cast;have hk0:40-n=(39-n)+1:=by omega
     rw[hk0,QG,if_pos q2]at hon;rw[←hon];exact ⟨_,[XS],0,⟨⟨rfl,rfl,[],rfl⟩,by simp⟩,[],rfl,rfl,by push_cast [ze,zd,CLe,zg],by push_cast [ze,zd,CLe,zg,qu]⟩
    ·push_cast;have hk0:40-n=(39-n)+1:=by omega
     have hk1:40-(n+1)=39-n:=by omega
     rw[hk0,QG,if_neg (by rw[q2];simp)]at hon;have hnl:=qw (zf (zL nm (zf s.ino f.xs).es) f.xs).data;exact ⟨(zn (zf (zL nm (zf s.ino f.xs).es) f.xs).data++rest,⟨0,[],if kI (zf (zL nm (zf s.ino f.xs).es) f.xs).data then 1 else (zf s.ino f.xs).ino⟩,dir||(qI (zf (zL nm (zf s.ino f.xs).es) f.xs).data&&decide (rest = [])),n+1),⟨by dsimp only;rw[hk1];exact hon,by dsimp only;omega,by dsimp only;rw[Wi];omega,fun _=>by
      dsimp only;split
      ·exact hf.root
      ·rw[hgs.2.2];exact hh⟩,by dsimp only;rw[Wi];omega,wk⟩
end
end Go.Proofs.YtnpdbhbmakdklaaGreatDoor.Vcg
