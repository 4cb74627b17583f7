/- What the proof of MvsLeads leans on, part 5. No condition beyond what each theorem states. -/
import Derived.Test.YtnpdbhbmakdklaaGreatDoorMvsLeadsKd
import Derived.WalkKit
import Derived.Lib.Hide
import Derived.Lib.Join
import Derived.Deep.Draws
import Derived.Lib.SlBytesRow
import Derived.StillTailTactics
import Derived.Test.YtnpdbhbmakdklaaGreatDoorProg
import Derived.WalkLawsBesides
import Derived.WalkSpells
import Derived.Shelf.Strings.Builder1
import Derived.Shelf.Strings.BuilderF
import Derived.Shelf.Strings.SlTrimAscii
import Derived.Sort.Walk0
set_option linter.unusedVariables false
set_option linter.unusedSimpArgs false
set_option linter.unusedSectionVars false
set_option maxRecDepth 100000
set_option maxHeartbeats 4000000
namespace Go.Proofs.YtnpdbhbmakdklaaGreatDoor.Vcg
variable {k N:Nat} {w:qj} {f:FsV} {args:List C} {n p:Int} {l:List (Int×Int)} {d:zX} {ns:List Lz} {xs:List zn} {x:zn} {a b:zB} {v:Lz}
section
open CA CB
open Go.RowKit
def ziG (w:qj):Prop:=(∀ k∈w.kept,k.data.length<=5000)/\Gg w.fs.xs/\Gg w.pool/\w.kept.length<=40
instance (w:qj):Decidable (ziG w):=by unfold ziG;infer_instance
def X3 (w:qj) (k:zL):Prop:=k.slot<=1073741824/\(zl k.ino w.fs.xs=true∨zl k.ino w.pool=true)/\(k.content=true->(if zl k.ino w.pool=true then zf k.ino w.pool else zf k.ino w.fs.xs).kind=1)/\(k.content=false->k.data = [])
instance (w:qj) (k:zL):Decidable (X3 w k):=by unfold X3;infer_instance
def Qf (ks:List zL):Prop:=qQ j4 zL.slot ks/\∀ k∈ks,1<=k.slot
instance (ks:List zL):Decidable (Qf ks):=by unfold Qf qQ;infer_instance
def X0 (w:qj):Prop:=JQ w.fs=0/\zW w.pool/\(∀ x∈w.pool,qI w x)/\Qf w.kept/\∀ k∈w.kept,X3 w k
instance (w:qj):Decidable (X0 w):=by unfold X0;infer_instance
def okW (w:qj):Prop:=ziG w/\X0 w
instance (w:qj):Decidable (okW w):=by unfold okW;infer_instance
theorem Zp {ks:List zL} (h:Qf ks):0<=Jj ks/\∀ k∈ks,k.slot<=Jj ks:=by
 rcases Ar ks with rfl | ⟨l,b,rfl⟩
 ·exact ⟨O0 0,fun k hk=>by cases hk⟩
 ·rw[Ae]at h ⊢;have hl:Jj (l++[b])=b.slot:=by unfold Jj;rw[BN];rfl
  rw[hl];have hb:=h.2 b (by simp);refine ⟨by omega,fun k hk=>?_⟩;rcases WC.1 hk with hk | hk
  ·have:=(AP.1 h.1).2.2 k hk b (by simp);have:k.slot<b.slot:=WP this;omega
  ·rw[W0.1 hk];exact O0 _
theorem HB {ks:List zL} {k:zL}:Qf (ks++[k])↔Qf ks/\Jj ks<k.slot:=by
 constructor
 ·rintro ⟨h1,h2⟩;have h0:Qf ks:=⟨(AP.1 h1).1,fun x hx=>h2 x (OP _ hx)⟩;refine ⟨h0,?_⟩;rcases Ar ks with rfl | ⟨l,b,rfl⟩
  ·have:=h2 k (by simp);show (0:Int)<k.slot;omega
  ·rw[Ae]at h1 ⊢;have hl:Jj (l++[b])=b.slot:=by unfold Jj;rw[BN];rfl
   rw[hl];exact WP ((AP.1 h1).2.2 b (by simp) k (by simp))
 ·rintro ⟨h,hk⟩;obtain ⟨q1,q2⟩:=Zp h;refine ⟨AP.2 ⟨h.1,BD _ _,fun a ha b hb=>?_⟩,fun x hx=>?_⟩
  ·rw[W0.1 hb];have:=q2 a ha;exact Wm (show a.slot<k.slot by omega)
  ·rcases WC.1 hx with hx | hx
   ·exact h.2 x hx
   ·rw[W0.1 hx];omega
theorem GX (w:qj):Fun Tryz.prog G0 61 [jP w] (qJ (decide (ziG w))) 0:=by
 have hkl:(zI w.kept).length=w.kept.length:=We ..;have hf:=zby (G:=G0) w.fs;have hq:=Xw (G:=G0) w;have hp:=zby (G:=G0) ⟨0,0,0,w.pool⟩;simp only at hp;have fin:(∀ k∈w.kept.take 100,k.data.length<=5000)->(ziG w↔Gg w.fs.xs/\Gg w.pool/\w.kept.length<=40):=fun h=>by
  refine ⟨fun q=>q.2,fun q=>⟨?_,q⟩⟩;rw[Wf (by have:=q.2.2;omega)]at h;exact h
 refine fon Tryz.func61 ?_;dsimp only[Tryz.f61];push_cast;refine loop (fun i:Nat=>⟨[(1,.ptr 0 0),(3,.sc (.int .i64 i))],[Uc w],0,0⟩) (fun i=>i<=w.kept.length/\i<=100/\∀ k∈w.kept.take i,k.data.length<=5000) (fun i=>w.kept.length-i) 0 ⟨Wb _,Wb _,fun x hx=>by simp at hx⟩ ?_ ?_
 ·exact wk
 ·rintro i ⟨h1,h2,h3⟩;have last:(∀ k∈w.kept.take 100,k.data.length<=5000)->decide (ziG w)=(decide (Gg w.fs.xs)&&(decide (Gg w.pool)&&decide (w.kept.length<=40))):=fun h=>by
   have:=fin h;by_cases a:Gg w.fs.xs<;>by_cases b:Gg w.pool<;>by_cases c:w.kept.length<=40<;>simp[this,a,b,c]
  by_cases h:i<w.kept.length
  ·by_cases h100:i<100
   ·have g:=jz w.kept i h;have h100':((i:Int)<100)=True:=eq_true (by omega);by_cases hd:5000<(w.kept[i].data.length:Int)
    ·have hn:¬ziG w:=fun q=>by have:=q.1 _ (Ww h);omega
     push_cast [hkl,h,h100',g,hd]
     repeat refine an ?_
     exact dn (by push_cast [ze,zd,CLe,zh,hn])
    ·push_cast [hkl,h,h100',g,hd]
     repeat refine an ?_
     exact ⟨i+1,⟨h,h100,qv h h3 (by omega)⟩,by omega,wk⟩
   ·have h100':((i:Int)<100)=False:=Wy (by omega);have e:i=100:=by omega
    have hl:=last (by rw[←e];exact h3);have h40:((w.kept.length:Int)<=40)=False:=Wy (by omega);rw[Wj (show ¬w.kept.length<=40 by omega)]at hl;rw[hl];by_cases a:Gg w.fs.xs
    ·by_cases b:Gg w.pool
     ·push_cast [hkl,h,h100'];refine cl hf ?_;push_cast [Wm a];refine cl hq ?_;push_cast;refine cl hp ?_;push_cast [Wm b,hkl,h40];exact dn (by push_cast [ze,zd,CLe,zh,a,b,W8])
     ·push_cast [hkl,h,h100'];refine cl hf ?_;push_cast [Wm a];refine cl hq ?_;push_cast;refine cl hp ?_;push_cast [Wj b];exact dn (by push_cast [ze,zd,CLe,zh,a,b,W8])
    ·push_cast [hkl,h,h100'];refine cl hf ?_;push_cast [Wj a];exact dn (by push_cast [ze,zd,CLe,zh,a,W8])
  ·rw[Wf (by omega)]at h3;have hl:=last fun k hk=>h3 k (Wx hk);rw[hl];by_cases a:Gg w.fs.xs
   ·by_cases b:Gg w.pool
    ·by_cases c:w.kept.length<=40
     ·have h40:((w.kept.length:Int)<=40)=True:=eq_true (by omega);push_cast [hkl,h];refine cl hf ?_;push_cast [Wm a];refine cl hq ?_;push_cast;refine cl hp ?_;push_cast [Wm b,hkl,h40];exact dn (by push_cast [ze,zd,CLe,zh,a,b,c,W8])
     ·have h40:((w.kept.length:Int)<=40)=False:=Wy (by omega);push_cast [hkl,h];refine cl hf ?_;push_cast [Wm a];refine cl hq ?_;push_cast;refine cl hp ?_;push_cast [Wm b,hkl,h40];exact dn (by push_cast [ze,zd,CLe,zh,a,b,c,W8])
    ·push_cast [hkl,h];refine cl hf ?_;push_cast [Wm a];refine cl hq ?_;push_cast;refine cl hp ?_;push_cast [Wj b];exact dn (by push_cast [ze,zd,CLe,zh,a,b,W8])
   ·push_cast [hkl,h];refine cl hf ?_;push_cast [Wj a];exact dn (by push_cast [ze,zd,CLe,zh,a,W8])
structure zue (w:qj):Prop where
 fs:FsS w.fs
 kept:w.kept.length<=10000
 pool:FsS ⟨0,0,0,w.pool⟩
theorem vu (w:qj) (hw:zue w):Fun Tryz.prog G0 62 [jP w] (qJ (decide (X0 w))) 0:=by
 have hfl:=hw.fs.len;have hkk:=hw.kept;have hpp:w.pool.length<=10000:=hw.pool.len;have hkl:(zI w.kept).length=w.kept.length:=We ..;have hpl:(zr w.pool).length=w.pool.length:=We ..;have hch:=zgT w.fs hw.fs;have hq:=Xw (G:=G0) w;have hri:=U5 (G:=G0) ⟨0,0,0,w.pool⟩ (by simp only;omega);by_cases c1:JQ w.fs=0
 case neg =>
  have hn:¬X0 w:=fun h=>c1 h.1;refine fof (fun i=>if i=14 then js 8 9 else []) Tryz.func62 ?_;dsimp only[Tryz.f62];push_cast;refine cl hch ?_;push_cast [c1];exact dn (by push_cast [ze,zd,CLe,zh,hn])
 by_cases c2:zW w.pool
 case neg =>
  have hn:¬X0 w:=fun h=>c2 h.2.1;rw[Wj c2]at hri;refine fof (fun i=>if i=14 then js 8 9 else []) Tryz.func62 ?_;dsimp only[Tryz.f62];push_cast;refine cl hch ?_;push_cast [c1];refine cl hq ?_;push_cast;refine cl hri ?_;push_cast;exact dn (by push_cast [ze,zd,CLe,zh,hn])
 rw[Wm c2]at hri;refine fof (fun i=>if i=14 then js 8 9 else []) Tryz.func62 ?_;dsimp only[Tryz.f62];push_cast;refine cl hch ?_;push_cast [c1];refine cl hq ?_;push_cast;refine cl hri ?_;push_cast;refine loop (fun i:Nat=>⟨[(1,.ptr 0 0),(3,.sc (.int .i64 i))],[Uc w],0,0⟩) (fun i=>i<=w.pool.length/\∀ x∈w.pool.take i,qI w x) (fun i=>w.pool.length-i) 0 ⟨Wb _,fun x hx=>by simp at hx⟩ ?_ ?_
 ·exact wk
 rintro i ⟨h1,h2⟩;by_cases h:i<w.pool.length
 ·have g:=jb w.pool i h;have hn:=hw.pool.node _ (Ww h);have hpo:=zc7 w w.pool[i] (by omega) (by omega) (by omega) (by omega);by_cases c3:qI w w.pool[i]
  ·rw[Wm c3]at hpo;push_cast [hpl,h,g]
   repeat refine an ?_
   refine cl hpo ?_;push_cast
   repeat refine an ?_
   exact ⟨i+1,⟨h,qv h h2 c3⟩,by omega,wk⟩
  ·rw[Wj c3]at hpo;have hn:¬X0 w:=fun q=>c3 (q.2.2.1 _ (Ww h));push_cast [hpl,h,g]
   repeat refine an ?_
   refine cl hpo ?_;push_cast;exact dn (by push_cast [ze,zd,CLe,zh,hn])
 rw[Wf (by omega)]at h2;have hs0:Qf []:=⟨List.Pairwise.nil,fun k hk=>by cases hk⟩;have hl0:Jj []=0:=rfl;push_cast [hpl,h];clear hri hq hch;refine loop (fun i:Nat=>⟨[(1,.ptr 0 0),(4,.sc (.int .i64 (Jj (w.kept.take i)))),(5,.sc (.int .i64 i))],[Uc w],0,0⟩) (fun i=>i<=w.kept.length/\Qf (w.kept.take i)/\∀ k∈w.kept.take i,X3 w k) (fun i=>w.kept.length-i) 0 ⟨Wb _,by rw[OF];exact hs0,fun x hx=>by simp at hx⟩ ?_ ?_
 ·exact wk (by push_cast [ze,zd,CLe,zh,OF,hl0])
 rintro i ⟨i1,i2,i3⟩;by_cases hi:i<w.kept.length
 case neg =>
  rw[Wf (by omega)]at i2 i3;have hn:X0 w:=⟨c1,c2,h2,i2,i3⟩;push_cast [hkl,hi];exact dn (by push_cast [ze,zd,CLe,zh,hn])
 have g:=jz w.kept i hi;have hlt:=kN hi;have hst:w.kept.take (i+1)=w.kept.take i++[w.kept[i]]:=by rw[WQ,Wa hi];rfl
 have hbad1:¬Jj (w.kept.take i)<w.kept[i].slot->¬X0 w:=fun hn q=>hn (HB.1 (by
  rw[←hst];exact ⟨q.2.2.2.1.1.sublist (List.take_sublist _ _),fun k hk=>q.2.2.2.1.2 k (Wx hk)⟩)).2
 have hbad2:¬X3 w w.kept[i]->¬X0 w:=fun hn q=>hn (q.2.2.2.2 _ (Ww hi));have hgood:Jj (w.kept.take i)<w.kept[i].slot->Qf (w.kept.take (i+1)):=fun q=>by rw[hst];exact HB.2 ⟨i2,q⟩
 have hgood2:X3 w w.kept[i]->∀ k∈w.kept.take (i+1),X3 w k:=fun q=>qv hi i3 q;have hg1:=qU (G:=G0) w.fs w.kept[i].ino (by omega);have hq:=Xw (G:=G0) w;have hg2:=qU (G:=G0) ⟨0,0,0,w.pool⟩ w.kept[i].ino (by simp only;omega);simp only at hg2;generalize w.kept[i]=k at g hlt hbad1 hbad2 hgood hgood2 hg1 hg2;generalize Jj (w.kept.take i)=la at hbad1 hgood;clear hst i2 i3;by_cases d1:k.slot<=la
 ·have hn:=hbad1 (by omega);push_cast [hkl,hi,g]
  repeat refine an ?_
  refine cl hg1 ?_;push_cast;refine cl hq ?_;push_cast;refine cl hg2 ?_;push_cast [d1];exact dn (by push_cast [ze,zd,CLe,zh,hn])
 have hgd:=hgood (by omega);by_cases d2:1073741824<k.slot
 ·have hn:=hbad2 fun q=>by have:=q.1;omega
  push_cast [hkl,hi,g]
  repeat refine an ?_
  refine cl hg1 ?_;push_cast;refine cl hq ?_;push_cast;refine cl hg2 ?_;push_cast [d1,d2];exact dn (by push_cast [ze,zd,CLe,zh,hn])
 cases e2:zl k.ino w.pool with
 | true =>
  rw[e2]at hg2;by_cases d4:k.content=true
  ·by_cases d5:(zf k.ino w.pool).kind=1
   ·have hok:X3 w k:=⟨by omega,.inr e2,fun _=>by rw[if_pos e2];exact d5,fun q=>by rw[d4]at q;cases q⟩;cases e1:zl k.ino w.fs.xs <;>
    ·rw[e1]at hg1;push_cast [hkl,hi,g]
     repeat refine an ?_
     refine cl hg1 ?_;push_cast;refine cl hq ?_;push_cast;refine cl hg2 ?_;push_cast [d1,d2,d4,d5]
     repeat refine an ?_
     exact ⟨i+1,⟨hi,hgd,hgood2 hok⟩,by omega,wk (by push_cast [ze,zd,CLe,zh,hlt])⟩
   ·have hn:=hbad2 fun q=>d5 (by have:=q.2.2.1 d4;rwa [if_pos e2]at this);cases e1:zl k.ino w.fs.xs <;>
    ·rw[e1]at hg1;push_cast [hkl,hi,g]
     repeat refine an ?_
     refine cl hg1 ?_;push_cast;refine cl hq ?_;push_cast;refine cl hg2 ?_;push_cast [d1,d2,d4,d5];exact dn (by push_cast [ze,zd,CLe,zh,hn])
  ·have d4:=Oy.2 d4;by_cases d6:k.data = []
   ·have hok:X3 w k:=⟨by omega,.inr e2,fun q=>(by rw[d4]at q;cases q),fun _=>d6⟩;cases e1:zl k.ino w.fs.xs <;>
    ·rw[e1]at hg1;push_cast [hkl,hi,g]
     repeat refine an ?_
     refine cl hg1 ?_;push_cast;refine cl hq ?_;push_cast;refine cl hg2 ?_;push_cast [d1,d2,d4,d6]
     repeat refine an ?_
     exact ⟨i+1,⟨hi,hgd,hgood2 hok⟩,by omega,wk (by push_cast [ze,zd,CLe,zh,hlt])⟩
   ·have hn:=hbad2 fun q=>d6 (q.2.2.2 d4);cases e1:zl k.ino w.fs.xs <;>
    ·rw[e1]at hg1;push_cast [hkl,hi,g]
     repeat refine an ?_
     refine cl hg1 ?_;push_cast;refine cl hq ?_;push_cast;refine cl hg2 ?_;push_cast [d1,d2,d4,d6];exact dn (by push_cast [ze,zd,CLe,zh,hn])
 | false =>
  rw[e2]at hg2;cases e1:zl k.ino w.fs.xs with
  | false =>
   rw[e1]at hg1;have hn:=hbad2 fun q=>by
    rcases q.2.1 with q | q
    ·rw[e1]at q;cases q
    ·rw[e2]at q;cases q
   push_cast [hkl,hi,g]
   repeat refine an ?_
   refine cl hg1 ?_;push_cast;refine cl hq ?_;push_cast;refine cl hg2 ?_;push_cast [d1,d2];exact dn (by push_cast [ze,zd,CLe,zh,hn])
  | true =>
   rw[e1]at hg1;have e2':¬zl k.ino w.pool=true:=by rw[e2];decide
   by_cases d4:k.content=true
   ·by_cases d5:(zf k.ino w.fs.xs).kind=1
    ·have hok:X3 w k:=⟨by omega,.inl e1,fun _=>by rw[if_neg e2'];exact d5,fun q=>by rw[d4]at q;cases q⟩;push_cast [hkl,hi,g]
     repeat refine an ?_
     refine cl hg1 ?_;push_cast;refine cl hq ?_;push_cast;refine cl hg2 ?_;push_cast [d1,d2,d4,d5]
     repeat refine an ?_
     exact ⟨i+1,⟨hi,hgd,hgood2 hok⟩,by omega,wk (by push_cast [ze,zd,CLe,zh,hlt])⟩
    ·have hn:=hbad2 fun q=>d5 (by have:=q.2.2.1 d4;rwa [if_neg e2']at this);push_cast [hkl,hi,g]
     repeat refine an ?_
     refine cl hg1 ?_;push_cast;refine cl hq ?_;push_cast;refine cl hg2 ?_;push_cast [d1,d2,d4,d5];exact dn (by push_cast [ze,zd,CLe,zh,hn])
   ·have d4:=Oy.2 d4;by_cases d6:k.data = []
    ·have hok:X3 w k:=⟨by omega,.inl e1,fun q=>(by rw[d4]at q;cases q),fun _=>d6⟩;push_cast [hkl,hi,g]
     repeat refine an ?_
     refine cl hg1 ?_;push_cast;refine cl hq ?_;push_cast;refine cl hg2 ?_;push_cast [d1,d2,d4,d6]
     repeat refine an ?_
     exact ⟨i+1,⟨hi,hgd,hgood2 hok⟩,by omega,wk (by push_cast [ze,zd,CLe,zh,hlt])⟩
    ·have hn:=hbad2 fun q=>d6 (q.2.2.2 d4);push_cast [hkl,hi,g]
     repeat refine an ?_
     refine cl hg1 ?_;push_cast;refine cl hq ?_;push_cast;refine cl hg2 ?_;push_cast [d1,d2,d4,d6];exact dn (by push_cast [ze,zd,CLe,zh,hn])
theorem ziG.m (h:ziG w):zue w:=⟨h.2.1.fs,by have:=h.2.2.2;omega,Gg.fs (f:=⟨0,0,0,w.pool⟩) h.2.2.1⟩
theorem zht (w:qj):Fun Tryz.prog G0 34 [jP w] (qJ (decide (okW w))) 0:=by
 by_cases c:ziG w
 ·have h1:=GX w;have h2:=vu w c.m;rw[Wm c]at h1;have e:decide (okW w)=decide (X0 w):=by by_cases r:X0 w<;>simp[okW,c,r]
  refine fon Tryz.func34 ?_;dsimp only[Tryz.f34];push_cast;refine cl h1 ?_;push_cast;refine cl h2 ?_;push_cast;exact dn (by push_cast [ze,zd,CLe,zh,e])
 ·have h1:=GX w;rw[Wj c]at h1;have e:¬okW w:=fun h=>c h.1;refine fon Tryz.func34 ?_;dsimp only[Tryz.f34];push_cast;refine cl h1 ?_;push_cast;exact dn (by push_cast [ze,zd,CLe,zh,e])
end
section
open Go.RowKit
section
variable {G:zu}
theorem zfi (n:Nat) (hn:n<=200000) (h0:0<n):YX Tryz.prog G 172 [.sc (.slice none 0 0),.sc (.int .i64 n)] [] 0 (fun r bx' m=>m=0/\∃ (c:Nat) (B:List C),n<=c/\c<=9223372036854775807/\B.length=c*5/\(B.all C.stayB)=true/\r = .bs 0 0 5 0 c/\bx' = [B]):=by
 have hp:((n:Int)<0)=False:=Wy (by omega);have hq:((0:Int)<(n:Int))=True:=eq_true (by omega);refine foX (fun i=>if i=1000000+37 then [true,true] else []) Tryz.func172 ?_;dsimp only[Tryz.f172];push_cast [hp,hq];refine ⟨⟨by omega,by omega⟩,zer zk1 zpu zkS rfl (by decide) rfl (by omega) (by omega) (by omega) (fun c h1 h2=>?_)⟩;push_cast;have hm:(n:Int).toNat=n:=by omega
 rw[hm]at h1;have h2:c<=9223372036854775807:=h2;refine ⟨by omega,by omega,_,[(List.replicate n [C.sc (.int .i64 0),C.sc (.int .i64 0),C.str [],C.str [],C.str []]).flatten++List.replicate ((c-n)*5) C.any],0,⟨⟨rfl,c,_,h1,h2,?_,?_,rfl,rfl⟩,Wb _⟩,[],rfl,rfl,?_,by push_cast [ze,zd,CLe,zh]⟩
 ·simp[hm];omega
 ·simp[O2,OL,C.stayB]
 ·push_cast [ze,zd,CLe,zh];exact z6 (by simp[O2,OL,C.stayB])
theorem zdr:Fun Tryz.prog G 116 [.sc (.slice none 0 0),.sc (.int .i64 0)] (.sc (.slice none 0 0)) 0:=by
 refine fon Tryz.func116 ?_;dsimp only[Tryz.f116];push_cast;exact dn
theorem zfM (n:Nat) (hn:n<=200000) (h0:0<n):YX Tryz.prog G 116 [.sc (.slice none 0 0),.sc (.int .i64 n)] [] 0 (fun r bx' m=>m=0/\∃ (c:Nat) (B:List C),n<=c/\c<=9223372036854775807/\B.length=c*1/\(B.all C.stayB)=true/\r = .bs 0 0 1 0 c/\bx' = [B]):=by
 have hp:((n:Int)<0)=False:=Wy (by omega);have hq:((0:Int)<(n:Int))=True:=eq_true (by omega);refine foX (fun i=>if i=1000000+30 then [true,true] else []) Tryz.func116 ?_;dsimp only[Tryz.f116];push_cast [hp,hq];refine ⟨⟨by omega,by omega⟩,zer zkm zpu zsA rfl (by decide) rfl (by omega) (by omega) (by omega) (fun c h1 h2=>?_)⟩;push_cast;have hm:(n:Int).toNat=n:=by omega
 rw[hm]at h1;have h2:c<=9223372036854775807:=h2;refine ⟨by omega,by omega,_,[(List.replicate n [C.str []]).flatten++List.replicate ((c-n)*1) C.any],0,⟨⟨rfl,c,_,h1,h2,?_,?_,rfl,rfl⟩,Wb _⟩,[],rfl,rfl,?_,by push_cast [ze,zd,CLe,zh]⟩
 ·simp[hm];omega
 ·simp[O2,OL,C.stayB]
 ·push_cast [ze,zd,CLe,zh];exact z6 (by simp[O2,OL,C.stayB])
end
end
section
open CA CB
open Go.RowKit
def szN (a b:Nat):Nat->Nat
 | 0=>0
 | 1=>a
 | _=>a+b
def zru {α:Type} (a b:List α):Nat->List α
 | 0=>[]
 | 1=>a
 | _=>a++b
structure Nv (k c:Nat) (a b:List (List C)) (j:Nat) (X:List C):Prop where
 len:X.length=c*k
 stay:(X.all C.stayB)=true
 cells:X.take (szN a.length b.length j*k)=(zru a b j).flatten
theorem Nv.step {k c:Nat} {a b r:List (List C)} {j:Nat} {X:List C} (h:Nv k c a b j X) (hr:zru a b (j+1)=zru a b j++r) (hn:szN a.length b.length (j+1)=szN a.length b.length j+r.length) (hk:∀ x∈r,x.length=k) (hs:ju r) (hc:szN a.length b.length (j+1)<=c) :
  Nv k c a b (j+1) (spl X (szN a.length b.length j*k) r.flatten):=by
 have hf:=qA hk;obtain ⟨h1,h2,h3⟩:=h;have hle:(szN a.length b.length j+r.length)*k<=c*k:=WT k (by omega);rw[Oq]at hle;refine ⟨by rw[ZD (by omega)];exact h1,?_,?_⟩
 ·unfold spl;rw[O2,O2,Wp,Wp];rw[Wz]at h2;exact ⟨⟨Wz.2 fun x hx=>h2 x (Wx hx),Za hs⟩,Wz.2 fun x hx=>h2 x (WU hx)⟩
 ·unfold spl;rw[hn,Oq,hr,A6,←h3,WH,AJ];have e1:(X.take (szN a.length b.length j*k)).length=szN a.length b.length j*k:=by rw[W7];omega
  rw[e1,Wf (by omega),O3,AJ,←hf,Wf (Wc _)];simp
structure zpT (k c:Nat) (rows:List (List C)) (B:List C):Prop where
 fit:rows.length<=c
 max:c<=9223372036854775807
 len:B.length=c*k
 stay:(B.all C.stayB)=true
 cells:B.take (rows.length*k)=rows.flatten
theorem zpT.ok {c e i:Nat} {rows:List (List C)} {B:List C} {bx:List (List C)} (h:zpT k c rows B) (hb:bx[i]?=some B) (h0:0<rows.length) (hk:∀ r∈rows,r.length=k):zcf [(i,e,k,rows,c)] bx:=
 zaQ hb (WM h0 h.fit) h.fit h.max h.len hk h.stay h.cells
section
variable {G:zu}
theorem MX (a b:List (List C)) (ka:∀ r∈a,r.length=5) (kb:∀ r∈b,r.length=5) (sa:ju a) (sb:ju b) (la:a.length<=90000) (lb:b.length<=90000) (h0:0<a.length+b.length) :
  YX Tryz.prog G 130 [.sl 1 [[.sl 5 a],[.sl 5 b]]] [] 0 (fun r bx n=>n=0/\∃ c B,zpT 5 c (a++b) B/\r = .bs 0 0 5 (a++b).length c/\bx = [B]):=by
 refine foX (fun i=>if i=1000000+37 then [true,true] else []) Tryz.func130 ?_;dsimp only[Tryz.f130];push_cast;refine loop (fun j:Nat=>⟨[(0,.sl 1 [[.sl 5 a],[.sl 5 b]]),(2,.sc (.slice none 0 0)),(3,.sc (.int .i64 (szN a.length b.length j:Nat))),(9,.sl 1 [[.sl 5 a],[.sl 5 b]]),(10,.sc (.int .i64 2)),(11,.sc (.int .i64 j))],[],0,0⟩) (fun j=>j<=2) (fun j=>2-j) 0 (by decide) ?_ ?_
 ·exact wk (by push_cast [ze,zd,CLe,zh,szN])
 intro j hj;obtain rfl | rfl | rfl:j=0∨j=1∨j=2:=by omega
 ·have hn:(((a.length:Int))<0)=False:=Wy (by omega);push_cast [szN,hn];exact ⟨⟨by omega,by omega⟩,1,by decide,by decide,wk (by push_cast [ze,zd,CLe,zh,szN])⟩
 ·have hn:(((a.length:Int)+(b.length:Int))<0)=False:=Wy (by omega);push_cast [szN,hn];exact ⟨⟨by omega,by omega⟩,2,by decide,by decide,wk (by push_cast [ze,zd,CLe,zh,szN])⟩
 ·push_cast [szN];refine jI [] [] (zfi (G:=G) (a.length+b.length) (by omega) (by omega)) rfl (by decide) (by decide) (by simp) (by push_cast) (by push_cast) (fun r bx' m hp=>?_);obtain ⟨rfl,c,B,h1,h2,h3,h4,rfl,rfl⟩:=hp;have hre:∀ fp fo,C.reL fp fo B=B:=fun fp fo=>zF h4;push_cast [hre];refine loop (fun p:Nat×List C=>⟨[(0,.sl 1 [[.sl 5 a],[.sl 5 b]]),(6,.bs 0 0 5 (szN a.length b.length p.1) c),(25,.sl 1 [[.sl 5 a],[.sl 5 b]]),(26,.sc (.int .i64 2)),(27,.sc (.int .i64 p.1))],[p.2],0,0⟩) (fun p=>p.1<=2/\Nv 5 c a b p.1 p.2) (fun p=>2-p.1) (0,B) ⟨Wb _,h3,h4,by simp[szN,zru]⟩ ?_ ?_
  ·exact JY.mk [] rfl rfl (Wb _) rfl (by push_cast [ze,zd,CLe,zh,szN]) (by (push_cast [ze,zd,CLe,zh];exact z6 h4))
  rintro ⟨j,X⟩ ⟨hj,hX⟩;have hj:j<=2:=hj;obtain rfl | rfl | rfl:j=0∨j=1∨j=2:=by omega
  ·have hs:=hX.step (r:=a) rfl (by simp[szN]) ka sa (by simp[szN];omega);push_cast [szN];refine Vw zk1 zkS rfl rfl (by decide) rfl (qA ka) rfl (by rw[hX.len];omega) (Wb _) (by omega) (by omega) (fun hc=>?_) (fun hc=>absurd hc (by omega));push_cast;have hs:Nv 5 c a b 1 (spl X 0 a.flatten):=by simpa [szN] using hs
   exact ⟨(1,spl X 0 a.flatten),⟨Nat.le_succ 1,hs⟩,by (simp only;omega),JY.mk [] rfl rfl (Wb _) rfl (by push_cast [ze,zd,CLe,zh,szN]) (by (push_cast [ze,zd,CLe,zh];exact z6 hs.stay))⟩
  ·have hs:=hX.step (r:=b) rfl (by simp[szN]) kb sb (by simp[szN];omega);push_cast [szN];refine Vw zk1 zkS rfl rfl (by decide) rfl (qA kb) rfl (by rw[hX.len];omega) (by omega) (by omega) (by omega) (fun hc=>?_) (fun hc=>absurd hc (by omega));push_cast;have hs:Nv 5 c a b 2 (spl X (a.length*5) b.flatten):=by simpa [szN] using hs
   exact ⟨(2,spl X (a.length*5) b.flatten),⟨Wc 2,hs⟩,by (simp only;omega),JY.mk [] rfl rfl (Wb _) rfl (by push_cast [ze,zd,CLe,zh,szN]) (by (push_cast [ze,zd,CLe,zh];exact z6 hs.stay))⟩
  ·push_cast [szN];exact ⟨_,[X],0,⟨⟨rfl,c,X,⟨by rw[Wn];omega,h2,hX.len,hX.stay,by rw[Wn];exact hX.cells⟩,rfl,rfl⟩,Wb _⟩,[],rfl,rfl,by (push_cast [ze,zd,CLe,zh];exact z6 hX.stay),by push_cast [ze,zd,CLe,zh,Wn]⟩
theorem yw (a b:List (List C)) (ka:∀ r∈a,r.length=1) (kb:∀ r∈b,r.length=1) (sa:ju a) (sb:ju b) (la:a.length<=90000) (lb:b.length<=90000) (h0:0<a.length+b.length) :
  YX Tryz.prog G 70 [.sl 1 [[.sl 1 a],[.sl 1 b]]] [] 0 (fun r bx n=>n=0/\∃ c B,zpT 1 c (a++b) B/\r = .bs 0 0 1 (a++b).length c/\bx = [B]):=by
 refine foX (fun i=>if i=1000000+30 then [true,true] else []) Tryz.func70 ?_;dsimp only[Tryz.f70];push_cast;refine loop (fun j:Nat=>⟨[(0,.sl 1 [[.sl 1 a],[.sl 1 b]]),(2,.sc (.slice none 0 0)),(3,.sc (.int .i64 (szN a.length b.length j:Nat))),(9,.sl 1 [[.sl 1 a],[.sl 1 b]]),(10,.sc (.int .i64 2)),(11,.sc (.int .i64 j))],[],0,0⟩) (fun j=>j<=2) (fun j=>2-j) 0 (by decide) ?_ ?_
 ·exact wk (by push_cast [ze,zd,CLe,zh,szN])
 intro j hj;obtain rfl | rfl | rfl:j=0∨j=1∨j=2:=by omega
 ·have hn:(((a.length:Int))<0)=False:=Wy (by omega);push_cast [szN,hn];exact ⟨⟨by omega,by omega⟩,1,by decide,by decide,wk (by push_cast [ze,zd,CLe,zh,szN])⟩
 ·have hn:(((a.length:Int)+(b.length:Int))<0)=False:=Wy (by omega);push_cast [szN,hn];exact ⟨⟨by omega,by omega⟩,2,by decide,by decide,wk (by push_cast [ze,zd,CLe,zh,szN])⟩
 ·push_cast [szN];refine jI [] [] (zfM (G:=G) (a.length+b.length) (by omega) (by omega)) rfl (by decide) (by decide) (by simp) (by push_cast) (by push_cast) (fun r bx' m hp=>?_);obtain ⟨rfl,c,B,h1,h2,h3,h4,rfl,rfl⟩:=hp;have hre:∀ fp fo,C.reL fp fo B=B:=fun fp fo=>zF h4;push_cast [hre];refine loop (fun p:Nat×List C=>⟨[(0,.sl 1 [[.sl 1 a],[.sl 1 b]]),(6,.bs 0 0 1 (szN a.length b.length p.1) c),(25,.sl 1 [[.sl 1 a],[.sl 1 b]]),(26,.sc (.int .i64 2)),(27,.sc (.int .i64 p.1))],[p.2],0,0⟩) (fun p=>p.1<=2/\Nv 1 c a b p.1 p.2) (fun p=>2-p.1) (0,B) ⟨Wb _,h3,h4,by simp[szN,zru]⟩ ?_ ?_
  ·exact JY.mk [] rfl rfl (Wb _) rfl (by push_cast [ze,zd,CLe,zh,szN]) (by (push_cast [ze,zd,CLe,zh];exact z6 h4))
  rintro ⟨j,X⟩ ⟨hj,hX⟩;have hj:j<=2:=hj;obtain rfl | rfl | rfl:j=0∨j=1∨j=2:=by omega
  ·have hs:=hX.step (r:=a) rfl (by simp[szN]) ka sa (by simp[szN];omega);push_cast [szN];refine Vw zkm zsA rfl rfl (by decide) rfl (qA ka) rfl (by rw[hX.len];omega) (Wb _) (by omega) (by omega) (fun hc=>?_) (fun hc=>absurd hc (by omega));push_cast;have hs:Nv 1 c a b 1 (spl X 0 a.flatten):=by simpa [szN] using hs
   exact ⟨(1,spl X 0 a.flatten),⟨Nat.le_succ 1,hs⟩,by (simp only;omega),JY.mk [] rfl rfl (Wb _) rfl (by push_cast [ze,zd,CLe,zh,szN]) (by (push_cast [ze,zd,CLe,zh];exact z6 hs.stay))⟩
  ·have hs:=hX.step (r:=b) rfl (by simp[szN]) kb sb (by simp[szN];omega);push_cast [szN];refine Vw zkm zsA rfl rfl (by decide) rfl (qA kb) rfl (by rw[hX.len];omega) (by omega) (by omega) (by omega) (fun hc=>?_) (fun hc=>absurd hc (by omega));push_cast;have hs:Nv 1 c a b 2 (spl X (a.length) b.flatten):=by simpa [szN] using hs
   exact ⟨(2,spl X (a.length) b.flatten),⟨Wc 2,hs⟩,by (simp only;omega),JY.mk [] rfl rfl (Wb _) rfl (by push_cast [ze,zd,CLe,zh,szN]) (by (push_cast [ze,zd,CLe,zh];exact z6 hs.stay))⟩
  ·push_cast [szN];exact ⟨_,[X],0,⟨⟨rfl,c,X,⟨by rw[Wn];omega,h2,hX.len,hX.stay,by rw[Wn];exact hX.cells⟩,rfl,rfl⟩,Wb _⟩,[],rfl,rfl,by (push_cast [ze,zd,CLe,zh];exact z6 hX.stay),by push_cast [ze,zd,CLe,zh,Wn]⟩
theorem MD:Fun Tryz.prog G 70 [.sl 1 [[.sl 1 []],[.sl 1 []]]] (.sl 1 []) 0:=by
 refine fon Tryz.func70 ?_;dsimp only[Tryz.f70];push_cast;refine loop (fun j:Nat=>⟨[(0,.sl 1 [[.sl 1 []],[.sl 1 []]]),(2,.sc (.slice none 0 0)),(3,.sc (.int .i64 0)),(9,.sl 1 [[.sl 1 []],[.sl 1 []]]),(10,.sc (.int .i64 2)),(11,.sc (.int .i64 j))],[],0,0⟩) (fun j=>j<=2) (fun j=>2-j) 0 (by decide) ?_ ?_
 ·exact wk
 intro j hj;obtain rfl | rfl | rfl:j=0∨j=1∨j=2:=by omega
 ·push_cast;exact ⟨1,by decide,by decide,wk⟩
 ·push_cast;exact ⟨2,by decide,by decide,wk⟩
 ·push_cast;refine cl zdr ?_;push_cast;refine loop (fun j:Nat=>⟨[(0,.sl 1 [[.sl 1 []],[.sl 1 []]]),(6,.own 0 9 1 []),(25,.sl 1 [[.sl 1 []],[.sl 1 []]]),(26,.sc (.int .i64 2)),(27,.sc (.int .i64 j))],[],1,0⟩) (fun j=>j<=2) (fun j=>2-j) 0 (by decide) ?_ ?_
  ·exact wks [.inr (9,1)]
  intro j hj;obtain rfl | rfl | rfl:j=0∨j=1∨j=2:=by omega
  ·push_cast;exact ⟨1,by decide,by decide,wks [.inl 0]⟩
  ·push_cast;exact ⟨2,by decide,by decide,wks [.inl 0]⟩
  ·push_cast;exact dn
end
end
end Go.Proofs.YtnpdbhbmakdklaaGreatDoor.Vcg
section
namespace Go.Proofs.YtnpdbhbmakdklaaGreatDoor.Kit
open Go.RowKit
theorem GH {a b:ByteArray} (h:a=b):Ending.returned (.string a) = .returned (.string b):=by rw[h]
def toL (s:ByteArray):Lz:=s.data.toList
def ofL (l:Lz):ByteArray:=⟨l.toArray⟩
@[simp] theorem zew (l:Lz):toL (ofL l)=l:=by simp[toL,ofL]
@[simp] theorem ztV (s:ByteArray):ofL (toL s)=s:=by cases s;simp[toL,ofL]
theorem GB (a b:Lz):ofL a++ofL b=ofL (a++b):=ByteArray.mk_append_mk a b
theorem Np (s:ByteArray):(toL s).length=s.size:=WY
theorem Vi (l:Lz):(ofL l).size=l.length:=by rw[←Np,zew]
def join (sep:ByteArray) (xs:List ByteArray):ByteArray:=⟨(Lib.join (xs.map (·.data.toList)) sep.data.toList).toArray⟩
theorem join_one (sep x:ByteArray):join sep [x]=x:=by
 cases x;simp[join,Lib.join_one]
end Go.Proofs.YtnpdbhbmakdklaaGreatDoor.Kit
end
section
namespace Go.Proofs.YtnpdbhbmakdklaaGreatDoor.Kit
open Go.RowKit
def byteCells (l:Lz):Array Value:=(l.map fun c=>Value.int .u8 (c.toNat:Int)).toArray
theorem HH (w:World) (l:Lz) (T:TypeId) (fr:Nat×Nat) (n:Nat) (hn:n=w.heap.size):Lib.Bytes (w.alloc (.cells (byteCells l) T fr)) n 0 (ofL l):=by
 intro i h;subst hn;have h1:(w.alloc (.cells (byteCells l) T fr)).heap[w.heap.size]?=some (.cells (byteCells l) T fr):=by
  show (w.heap.push _)[w.heap.size]?=_;rw[Array.getElem?_push,if_pos rfl]
 simp only[World.cell?,h1];show (byteCells l)[0+i]?=_;have h2:i<l.length:=by rw[Vi]at h;exact h
 rw[Ox,byteCells,Aq,WA,Wa h2]
 rfl
theorem Nr {P:Program} (w:World) (l:Lz) (src e dst:TypeId) (hs:P.underlying src=some (.slice e)) (he:P.underlying e=some (.int .u8)) (hd:P.underlying dst=some .string) (cs:Array Value) (hcs:cs=byteCells l) (fr:Nat×Nat) (m cap n:Nat) (hm:m=w.heap.size) (hn:n=l.length) :
  (convert src dst (.slice (some ⟨m,0,none⟩) n cap)).run P (w.alloc (.cells cs e fr)) = .ok (.string (ofL l)) (w.alloc (.cells cs e fr)):=by
 subst hcs hm hn;have:=Lib.run_convert_whole (P:=P) (w.alloc (.cells (byteCells l) e fr)) src e dst hs he hd w.heap.size 0 (ofL l) (HH w l e fr _ rfl) cap;rw[Vi]at this;exact this
end Go.Proofs.YtnpdbhbmakdklaaGreatDoor.Kit
end
section
namespace Go.Proofs.YtnpdbhbmakdklaaGreatDoor
open Go.RowKit
namespace QuoteWalk
open Kit QuotePlain
theorem xK {c:UInt8} (h:good c=false):¬(32:Int)<=(c.toNat:Int)∨((32:Int)<=(c.toNat:Int)/\¬(c.toNat:Int)<=126)∨((32:Int)<=(c.toNat:Int)/\(c.toNat:Int)<=126/\((c.toNat:Int) != 34)=false) ∨
  ((32:Int)<=(c.toNat:Int)/\(c.toNat:Int)<=126/\((c.toNat:Int) != 34)=true/\((c.toNat:Int) != 92)=false):=by
 simp only[good,Ok]at h;simp only[bne_iff_ne,ne_eq,bne_eq_false_iff_eq];omega
theorem Gi {c:UInt8} (h:good c=true):(32:Int)<=(c.toNat:Int)/\(c.toNat:Int)<=126/\((c.toNat:Int) != 34)=true/\((c.toNat:Int) != 92)=true:=by
 simp only[good,WW]at h;refine ⟨by omega,by omega,?_,?_⟩<;>(simp only[bne_iff_ne,ne_eq];omega)
theorem uF (c:UInt8) (w:World) :
  Calls Tryz.prog 198 #[.int .u8 c.toNat] w fun e w'=>e = .returned (.bool (good c))/\w=w':=by
 have hc:=c.toNat_lt;cases hg:good c with
 | true =>
  obtain ⟨g1,g2,g3,g4⟩:=Gi hg;clear hg
  go_enter Tryz.func198,Tryz.ntmps198
  go_wp2
  go_ret
  exact ⟨rfl,rfl⟩
 | false =>
  rcases xK hg with h | ⟨h0,h⟩ | ⟨h0,h1,h2⟩ | ⟨h0,h1,h2,h3⟩
  all_goals clear hg
  ·go_enter Tryz.func198,Tryz.ntmps198
   go_wp2
   go_ret
   exact ⟨rfl,rfl⟩
  ·go_enter Tryz.func198,Tryz.ntmps198
   go_wp2
   go_ret
   exact ⟨rfl,rfl⟩
  ·go_enter Tryz.func198,Tryz.ntmps198
   go_wp2
   go_ret
   exact ⟨rfl,rfl⟩
  ·go_enter Tryz.func198,Tryz.ntmps198
   go_wp2
   go_ret
   exact ⟨rfl,rfl⟩
theorem MO (c:UInt8) (w:World) (hg:good c=true) :
  Calls Tryz.prog 110 #[.int .u8 c.toNat] w fun e w'=>e = .returned (.string (ofL (qb c)))/\Below w.heap.size w w':=by
 have hc:=c.toNat_lt;have hq:=Lib.hid (show qb c = [c] by rw[qb,if_pos hg]);obtain ⟨g1,g2,g3,g4⟩:=Gi hg;have hcv:=Nr (P:=Tryz.prog) w [c] 174 5 9 Tryz.underlying174 Tryz.underlying5 Tryz.underlying9 #[.int .u8 c.toNat] rfl (0,0) w.heap.size 1 1 rfl rfl;clear hg
 go_enter Tryz.func110,Tryz.ntmps110
 go_wp2
 go_ret
 exact ⟨by rw[hq.out];rfl,(Oa _ _).alloc (Wc _) _⟩
theorem zug (n:Nat) (h:n<16) (w:World):(Instr.index 9 (.string ⟨#[48,49,50,51,52,53,54,55,56,57,97,98,99,100,101,102]⟩) (.int .u8 (n:Int))).run Tryz.prog w = .ok (.int .u8 ((Nc n).toNat:Int)) w:=by
 rcases (by omega:n=0∨n=1∨n=2∨n=3∨n=4∨n=5∨n=6∨n=7∨n=8∨n=9∨n=10∨n=11∨n=12∨n=13∨n=14∨n=15) with rfl | rfl | rfl | rfl | rfl | rfl | rfl | rfl | rfl | rfl | rfl | rfl | rfl | rfl | rfl | rfl
 all_goals kernel_rfl
theorem zmB (c:UInt8) (w:World):(Instr.index 9 (.string ⟨#[48,49,50,51,52,53,54,55,56,57,97,98,99,100,101,102]⟩) (.int .u8 ((c.toNat:Int) / 16))).run Tryz.prog w = .ok (.int .u8 ((Nc (c.toNat / 16)).toNat:Int)) w:=
 zug (c.toNat / 16) (by have:=c.toNat_lt;omega) w
theorem zmC (c:UInt8) (w:World):(Instr.index 9 (.string ⟨#[48,49,50,51,52,53,54,55,56,57,97,98,99,100,101,102]⟩) (.int .u8 ((c.toNat:Int) % 16))).run Tryz.prog w = .ok (.int .u8 ((Nc (c.toNat % 16)).toNat:Int)) w:=
 zug (c.toNat % 16) (by omega) w
theorem zmP (c:UInt8):IntKind.u8.wrap ((c.toNat:Int) / 16)=(c.toNat:Int) / 16:=by
 have:=c.toNat_lt;exact IntWalk.u8_in _ (by omega)
theorem zmG (c:UInt8):IntKind.u8.wrap ((c.toNat:Int) % 16)=(c.toNat:Int) % 16:=by
 have:=c.toNat_lt;exact IntWalk.u8_in _ (by omega)
theorem zoq (c:UInt8):(c.toNat:Int).tmod 16=(c.toNat:Int) % 16:=Int.tmod_eq_emod_of_nonneg (by omega)
theorem vm (c:UInt8) (w:World) (hg:good c=false) :
  Calls Tryz.prog 110 #[.int .u8 c.toNat] w fun e w'=>e = .returned (.string (ofL (qb c)))/\Below w.heap.size w w':=by
 have hc:=c.toNat_lt;have hq:=Lib.hid (show qb c = [92,120,Nc (c.toNat / 16),Nc (c.toNat % 16)] by rw[qb,hg];rfl);have hb:=xK hg;have x1:=zmB c;have x2:=zmC c;have y1:=zmP c;have y2:=zmG c;have y3:=zoq c;have hcv:=fun w2:World=>Nr (P:=Tryz.prog) w2 [92,120,Nc (c.toNat / 16),Nc (c.toNat % 16)] 174 5 9 Tryz.underlying174 Tryz.underlying5 Tryz.underlying9 #[.int .u8 92,.int .u8 120,.int .u8 (Nc (c.toNat / 16)).toNat,.int .u8 (Nc (c.toNat % 16)).toNat] rfl (0,0) w2.heap.size 4 4 rfl rfl;clear hg;rcases hb with h | ⟨h0,h⟩ | ⟨h0,h1,h2⟩ | ⟨h0,h1,h2,h3⟩
 ·go_enter Tryz.func110,Tryz.ntmps110
  go_wp2
  go_still_tail 6,(by kernel_rfl)
  change wpList _ _ _ _ _ w.drew;obtain ⟨w2,hw2,hsz⟩:∃ w2:World,Below w.heap.size w w2/\w2=w.drew:=⟨_,(Oa _ _).drew,rfl⟩;rw[←hsz];clear hsz
  go_wp2
  go_ret
  exact ⟨by rw[hq.out];rfl,hw2.alloc hw2.size _⟩
 ·go_enter Tryz.func110,Tryz.ntmps110
  go_wp2
  go_still_tail 6,(by kernel_rfl)
  change wpList _ _ _ _ _ w.drew;obtain ⟨w2,hw2,hsz⟩:∃ w2:World,Below w.heap.size w w2/\w2=w.drew:=⟨_,(Oa _ _).drew,rfl⟩;rw[←hsz];clear hsz
  go_wp2
  go_ret
  exact ⟨by rw[hq.out];rfl,hw2.alloc hw2.size _⟩
 ·go_enter Tryz.func110,Tryz.ntmps110
  go_wp2
  go_still_tail 6,(by kernel_rfl)
  change wpList _ _ _ _ _ w.drew;obtain ⟨w2,hw2,hsz⟩:∃ w2:World,Below w.heap.size w w2/\w2=w.drew:=⟨_,(Oa _ _).drew,rfl⟩;rw[←hsz];clear hsz
  go_wp2
  go_ret
  exact ⟨by rw[hq.out];rfl,hw2.alloc hw2.size _⟩
 ·go_enter Tryz.func110,Tryz.ntmps110
  go_wp2
  go_still_tail 6,(by kernel_rfl)
  change wpList _ _ _ _ _ w.drew;obtain ⟨w2,hw2,hsz⟩:∃ w2:World,Below w.heap.size w w2/\w2=w.drew:=⟨_,(Oa _ _).drew,rfl⟩;rw[←hsz];clear hsz
  go_wp2
  go_ret
  exact ⟨by rw[hq.out];rfl,hw2.alloc hw2.size _⟩
theorem Mz (c:UInt8) (w:World) :
  Calls Tryz.prog 110 #[.int .u8 c.toNat] w fun e w'=>e = .returned (.string (ofL (qb c)))/\Below w.heap.size w w':=by
 cases h:good c with
 | true=>exact MO c w h
 | false=>exact vm c w h
end QuoteWalk
end Go.Proofs.YtnpdbhbmakdklaaGreatDoor
end
section
namespace Go.Proofs
open YtnpdbhbmakdklaaGreatDoor
open Go.Shelf
def Tryz.zlays166_ren:Go.Shelf.Ren:=⟨fun | 166=>166 | 240=>199 | 276=>232 | n=>n,fun | 0=>0 | 3=>3 | 4=>4 | 9=>9 | 20=>20 | 37=>174 | 70=>218 | 72=>220 | 75=>223 | 164=>281 | 80=>226 | 5=>5 | n=>n,fun | n=>n⟩
theorem Tryz.zlays166:Go.Proofs.Lays.n166 Tryz.prog Tryz.zlays166_ren:={
 mixed:=by kernel_rfl
 f166:=Tryz.func166.trans (Wu some (by kernel_rfl))
 f240:=Tryz.func199.trans (Wu some (by kernel_rfl))
 f276:=Tryz.func232.trans (Wu some (by kernel_rfl))
 t0:=Tryz.underlying0
 a0:=Tryz.isAgg0
 z0:=Tryz.sizeOf0
 v0:=Tryz.zeroValue0
 t3:=Tryz.underlying3
 a3:=Tryz.isAgg3
 z3:=Tryz.sizeOf3
 v3:=Tryz.zeroValue3
 t4:=Tryz.underlying4
 a4:=Tryz.isAgg4
 z4:=Tryz.sizeOf4
 v4:=Tryz.zeroValue4
 t9:=Tryz.underlying9
 a9:=Tryz.isAgg9
 z9:=Tryz.sizeOf9
 v9:=Tryz.zeroValue9
 t20:=Tryz.underlying20
 a20:=Tryz.isAgg20
 z20:=Tryz.sizeOf20
 v20:=Tryz.zeroValue20
 t37:=Tryz.underlying174
 a37:=Tryz.isAgg174
 z37:=Tryz.sizeOf174
 v37:=Tryz.zeroValue174
 t70:=Tryz.underlying218
 a70:=Tryz.isAgg218
 z70:=Tryz.sizeOf218
 v70:=Tryz.zeroValue218
 t72:=Tryz.underlying220
 a72:=Tryz.isAgg220
 z72:=Tryz.sizeOf220
 v72:=Tryz.zeroValue220
 t75:=Tryz.underlying223
 a75:=Tryz.isAgg223
 z75:=Tryz.sizeOf223
 v75:=Tryz.zeroValue223
 t164:=Tryz.underlying281
 a164:=Tryz.isAgg281
 z164:=Tryz.sizeOf281
 v164:=Tryz.zeroValue281 }
theorem Tryz.zBuilder_Extra_166:Builder.Extra Tryz.prog Tryz.zlays166_ren:={
 sizeBuilder:=by kernel_rfl
 liesBuilder:=by kernel_rfl
 t5:=Tryz.underlying5
 a5:=Tryz.isAgg5
 z5:=Tryz.sizeOf5
 v5:=Tryz.zeroValue5
 infoByte:=by kernel_rfl
 cellsByte:=by kernel_rfl
 sizeByte:=by kernel_rfl
 neB5:=by decide }
def Tryz.zlays167_ren:Go.Shelf.Ren:=⟨fun | 167=>197 | 240=>199 | 276=>232 | n=>n,fun | 0=>0 | 4=>4 | 5=>5 | 9=>9 | 20=>20 | 37=>174 | 70=>218 | 72=>220 | 75=>223 | 164=>281 | 80=>226 | n=>n,fun | n=>n⟩
theorem Tryz.zlays167:Go.Proofs.Lays.n167 Tryz.prog Tryz.zlays167_ren:={
 mixed:=by kernel_rfl
 f167:=Tryz.func197.trans (Wu some (by kernel_rfl))
 f240:=Tryz.func199.trans (Wu some (by kernel_rfl))
 f276:=Tryz.func232.trans (Wu some (by kernel_rfl))
 t0:=Tryz.underlying0
 a0:=Tryz.isAgg0
 z0:=Tryz.sizeOf0
 v0:=Tryz.zeroValue0
 t4:=Tryz.underlying4
 a4:=Tryz.isAgg4
 z4:=Tryz.sizeOf4
 v4:=Tryz.zeroValue4
 t5:=Tryz.underlying5
 a5:=Tryz.isAgg5
 z5:=Tryz.sizeOf5
 v5:=Tryz.zeroValue5
 t9:=Tryz.underlying9
 a9:=Tryz.isAgg9
 z9:=Tryz.sizeOf9
 v9:=Tryz.zeroValue9
 t20:=Tryz.underlying20
 a20:=Tryz.isAgg20
 z20:=Tryz.sizeOf20
 v20:=Tryz.zeroValue20
 t37:=Tryz.underlying174
 a37:=Tryz.isAgg174
 z37:=Tryz.sizeOf174
 v37:=Tryz.zeroValue174
 t70:=Tryz.underlying218
 a70:=Tryz.isAgg218
 z70:=Tryz.sizeOf218
 v70:=Tryz.zeroValue218
 t72:=Tryz.underlying220
 a72:=Tryz.isAgg220
 z72:=Tryz.sizeOf220
 v72:=Tryz.zeroValue220
 t75:=Tryz.underlying223
 a75:=Tryz.isAgg223
 z75:=Tryz.sizeOf223
 v75:=Tryz.zeroValue223
 t164:=Tryz.underlying281
 a164:=Tryz.isAgg281
 z164:=Tryz.sizeOf281
 v164:=Tryz.zeroValue281 }
theorem Tryz.zBuilder_Extra_167:Builder.Extra Tryz.prog Tryz.zlays167_ren:={
 sizeBuilder:=by kernel_rfl
 liesBuilder:=by kernel_rfl
 t5:=Tryz.underlying5
 a5:=Tryz.isAgg5
 z5:=Tryz.sizeOf5
 v5:=Tryz.zeroValue5
 infoByte:=by kernel_rfl
 cellsByte:=by kernel_rfl
 sizeByte:=by kernel_rfl
 neB5:=by decide }
open Go.RowKit in
theorem Tryz.zBuilder_WriteByte (B b:Nat) (bs:List Value) (c:Int) (w:World) (h:Lib.IsBuilder 220 5 B b bs w) (hlen:bs.length+1<=140737488355328) (hBw:B<=w.heap.size) :
  Calls Tryz.prog 197 #[.pointer (some ⟨b,0,none⟩),.int .u8 c] w fun e w'=>e = .returned .nilIface/\(Lib.BuilderAt 220 5 B b (.pointer (some ⟨b,0,none⟩)) (bs++[.int .u8 c]) w'/\Below B w w'):=Any.Builder_WriteByte Tryz.zlays167 Tryz.zBuilder_Extra_167 B b bs c w h hlen hBw
open Go.RowKit in
theorem Tryz.zBuilder_WriteString (B b:Nat) (bs:List Value) (s:ByteArray) (w:World) (h:Lib.IsBuilder 220 5 B b bs w) (hlen:bs.length+s.size<=140737488355328) (hBw:B<=w.heap.size) :
  Calls Tryz.prog 166 #[.pointer (some ⟨b,0,none⟩),.string s] w fun e w'=>e = .returned (.tuple #[.int .i64 s.size,.nilIface])/\(Lib.BuilderAt 220 5 B b (.pointer (some ⟨b,0,none⟩)) (bs++Lib.strCells s) w'/\Below B w w'):=Any.Builder_WriteString Tryz.zlays166 Tryz.zBuilder_Extra_166 B b bs s w h hlen hBw
end Go.Proofs
end
section
namespace Go.Proofs.YtnpdbhbmakdklaaGreatDoor
open Go.RowKit
namespace QuoteWalk
open Kit QuotePlain
def pre (s:ByteArray) (k:Nat):Bs:=34 :: mid ((toL s).take k)
theorem zaA (s:ByteArray):pre s 0 = [34]:=by simp[pre,mid]
theorem za0 (s:ByteArray) (k:Nat) (h:k<s.size) {c:UInt8} (hc:s[k]=c):pre s (k+1)=pre s k++qb c:=by
 have h':k<(toL s).length:=by rw[Np];exact h
 have:(toL s)[k]=c:=hc;rw[pre,pre,Ai h',this,mid,mid,Bp];simp
theorem zed (s:ByteArray) (k:Nat) (h:s.size<=k):pre s k++[34]=quoteL (toL s):=by
 rw[pre,Wf (by rw[Np];exact h)];rfl
theorem zmw (c:UInt8):(qb c).length<=4:=by unfold qb;split<;>simp
theorem mid_len (l:Bs):(mid l).length<=4*l.length:=by
 induction l with
 | nil=>simp[mid]
 | cons c l ih =>
  have:=zmw c;simp only[mid,Ap,Wn,Wh]at ih ⊢;omega
theorem zg1 (s:ByteArray) (k:Nat):(pre s k).length<=1+4*k:=by
 have h1:=mid_len ((toL s).take k);have h2:((toL s).take k).length<=k:=List.length_take_le _ _;simp only[pre,Wh];omega
theorem refQuote_walk (s:ByteArray) (w:World) (hs:s.size<=1099511627776) :
  Calls Tryz.prog 63 #[.string s] w fun e w'=>e = .returned (.string (ofL (quoteL (toL s))))/\Below w.heap.size w w':=by
 go_enter Tryz.func63,Tryz.ntmps63
 go_wp2
 go_loopw [3,4] (fun o i wr=>∃ k:Nat,k<=s.size/\i = .int .i64 k/\o = .string (ofL (pre s k))/\Below w.heap.size w wr) (fun _ i _=>s.size-(intOf i).toNat)
 case atStart=>exact ⟨0,by omega,rfl,by rw[zaA];rfl,Oa _ _⟩
 case round =>
  obtain ⟨k,hk,rfl,rfl,hB⟩:=hrel;have hpl:=zg1 s k;have hps:(ofL (pre s k)).size<=1+4*k:=by rw[Vi];exact hpl
  by_cases hlt:k<s.size
  ·obtain ⟨c,hc⟩:∃ c,s[k]=c:=⟨_,rfl⟩;have hsn:=Lib.hid (za0 s k hlt hc);have hql:=zmw c;have hqs:(ofL (qb c)).size<=4:=by rw[Vi];exact hql
   generalize hp:ofL (pre s k)=p at *;have hp':=Lib.hid hp;clear hp
   go_wp2_with fail
   refine (Mz c _).mono ?_;rintro e w1 ⟨rfl,hb1⟩;generalize hq:ofL (qb c)=q at *;have hq':=Lib.hid hq;clear hq
   go_wp2
   go_roundw
   case rel=>exact ⟨k+1,by omega,by go_num,by rw[hsn.out,←GB,hp'.out,hq'.out],hB.trans (hb1.mono hB.size)⟩
   case measure=>simp[intOf];omega
  ·have hfin:=Lib.hid (zed s k (by omega));generalize hp:ofL (pre s k)=p at *;have hp':=Lib.hid hp;clear hp
   go_wp2
   go_ret
   exact ⟨GH (by rw[←hp'.out,←hfin.out,←GB];rfl),hB⟩
def Bld (B:Nat) (l:Bs) (w:World):Prop:=Lib.BuilderAt 220 5 B B (.pointer (some ⟨B,0,none⟩)) (Lib.byteCells l) w
theorem Bld.alloc {B:Nat} {l:Bs} {w:World} (h:Bld B l w) (o:Obj):Bld B l (w.alloc o):=by
 obtain ⟨h1,v,h2,h3,h4⟩:=h;refine ⟨h1,v,?_,h3.alloc o,h4⟩;rw[Lib.alloc_old _ _ _ (Aw.1 h2).1];exact h2
theorem Bld.drew {B:Nat} {l:Bs} {w:World} (h:Bld B l w):Bld B l w.drew:=h
theorem M6 (B:Nat) (l:Bs) (c:UInt8) (w:World) (h:Bld B l w) (hl:l.length<140737488355328) (hB:B<=w.heap.size) :
  Calls Tryz.prog 197 #[.pointer (some ⟨B,0,none⟩),.int .u8 (c.toNat:Int)] w fun e w'=>e = .returned .nilIface/\Bld B (l++[c]) w'/\Below B w w':=by
 refine (Tryz.zBuilder_WriteByte B B (Lib.byteCells l) c.toNat w (.inr h) (by rw[Lib.byteCells_length];omega) hB).mono ?_;rintro e w' ⟨h1,h2,h3⟩;exact ⟨h1,by rw[Bld,Lib.byteCells_append];exact h2,h3⟩
theorem zdh (w:World) (c:UInt8) :
  Calls Tryz.prog 197 #[.pointer (some ⟨w.heap.size,0,none⟩),.int .u8 (c.toNat:Int)] (w.alloc (.cells #[.pointer none,.slice none 0 0] 220 (0,0))) fun e w'=>e = .returned .nilIface/\Bld w.heap.size [c] w'/\Below w.heap.size w w':=by
 refine (Tryz.zBuilder_WriteByte w.heap.size w.heap.size [] c.toNat _ (Lib.fresh_isBuilder _ _ w) (by decide) (by simp)).mono ?_;rintro e w' ⟨h1,h2,h3⟩;exact ⟨h1,h2,((Oa _ _).alloc (Wc _) _).trans h3⟩
theorem uH (B:Nat) (l:Bs) (x:ByteArray) (w:World) (h:Bld B l w) (hl:l.length+x.size<=140737488355328) (hB:B<=w.heap.size) :
  Calls Tryz.prog 166 #[.pointer (some ⟨B,0,none⟩),.string x] w fun e w'=>e = .returned (.tuple #[.int .i64 x.size,.nilIface])/\Bld B (l++toL x) w'/\Below B w w':=by
 refine (Tryz.zBuilder_WriteString B B (Lib.byteCells l) x w (.inr h) (by rw[Lib.byteCells_length];omega) hB).mono ?_;rintro e w' ⟨h1,h2,h3⟩;exact ⟨h1,by rw[Bld,Lib.byteCells_append];exact h2,h3⟩
theorem zeD (B:Nat) (l:Bs) (w:World) (h:Bld B l w) (hB:B<=w.heap.size) :
  Calls Tryz.prog 167 #[.pointer (some ⟨B,0,none⟩)] w fun e w'=>e = .returned (.string (ofL l))/\Below B w w':=
 Tryz.Builder_String_any B B l w (.inr h) hB
theorem zrc (c:UInt8):bits BinOp.and IntKind.u8 (c.toNat:Int) 15=(c.toNat:Int) % 16:=by
 have:=zis (p:=fun c=>decide (bits BinOp.and IntKind.u8 (c.toNat:Int) 15=(c.toNat:Int) % 16)) (by decide +kernel) c;exact WP this
theorem quote_walk (s:ByteArray) (w:World) (hs:s.size<=1099511627776) :
  Calls Tryz.prog 163 #[.string s] w fun e w'=>e = .returned (.string (ofL (quoteL (toL s))))/\Below w.heap.size w w':=by
 go_enter Tryz.func163,Tryz.ntmps163
 go_wp2_with fail
 refine (zdh w 34).mono ?_;rintro e w1 ⟨rfl,hI1,hB1⟩
 go_wp2_with fail
 go_loopw [9] (fun i wr=>∃ k:Nat,k<=s.size/\i = .int .i64 k/\Bld w.heap.size (pre s k) wr/\Below w.heap.size w wr) (fun i _=>s.size-(intOf i).toNat)
 case atStart=>exact ⟨0,by omega,rfl,by rw[zaA];exact hI1,hB1⟩
 case round =>
  obtain ⟨k,hk,rfl,hI,hB⟩:=hrel;clear hI1 hB1;have hpl:=zg1 s k;by_cases hlt:k<s.size
  ·obtain ⟨c,hc⟩:∃ c,s[k]=c:=⟨_,rfl⟩;have hsn:=Lib.hid (za0 s k hlt hc)
   go_wp2_with fail
   refine (uF c _).mono ?_;rintro e w' ⟨rfl,rfl⟩;cases hg:good c with
   | true =>
    have hq:=Lib.hid (show qb c = [c] by rw[qb,if_pos hg]);clear hg
    go_wp2_with fail
    refine (M6 w.heap.size (pre s k) c _ hI (by omega) hB.size).mono ?_;rintro e w2 ⟨rfl,hI2,hb2⟩
    go_wp2
    go_roundw
    case rel=>exact ⟨k+1,by omega,by go_num,by rw[hsn.out,hq.out];exact hI2,hB.trans hb2⟩
    case measure=>simp[intOf];omega
   | false =>
    have hq:=Lib.hid (show qb c = [92,120,Nc (c.toNat / 16),Nc (c.toNat % 16)] by rw[qb,hg];rfl);clear hg;have x1:=zmB c;have x2:=zmC c;have x3:=zrc c;have hcv:=fun w2:World=>Nr (P:=Tryz.prog) w2 [92,120,Nc (c.toNat / 16),Nc (c.toNat % 16)] 174 5 9 Tryz.underlying174 Tryz.underlying5 Tryz.underlying9 #[.int .u8 92,.int .u8 120,.int .u8 (Nc (c.toNat / 16)).toNat,.int .u8 (Nc (c.toNat % 16)).toNat] rfl (0,0) w2.heap.size 4 4 rfl rfl
    go_wp2_with fail
    go_still_tail 6,(by kernel_rfl)
    change wpList _ _ _ _ _ wr.drew;obtain ⟨w2,hw2,hI2,hsz⟩:∃ w2:World,Below w.heap.size w w2/\Bld w.heap.size (pre s k) w2/\w2=wr.drew:=⟨_,hB.drew,hI.drew,rfl⟩;rw[←hsz];clear hsz hI hB
    go_wp2_with fail
    refine (uH w.heap.size (pre s k) (ofL [92,120,Nc (c.toNat / 16),Nc (c.toNat % 16)]) _ (hI2.alloc _) (by rw[Vi];show _+4<=_;omega) (by have:=hw2.size;simp;omega)).mono ?_;rintro e w3 ⟨rfl,hI3,hb3⟩;rw[zew]at hI3;have hB3:=(hw2.alloc hw2.size _).trans hb3;clear hb3 hcv x1 x2 x3 hI2
    go_wp2
    go_roundw
    case rel=>exact ⟨k+1,by omega,by go_num,by rw[hsn.out,hq.out];exact hI3,hB3⟩
    case measure=>simp[intOf];omega
  ·have hfin:=Lib.hid (zed s k (by omega))
   go_wp2_with fail
   refine (M6 w.heap.size (pre s k) 34 _ hI (by omega) hB.size).mono ?_;rintro e w2 ⟨rfl,hI2,hb2⟩
   go_wp2_with fail
   refine (zeD w.heap.size _ _ hI2 (hB.trans hb2).size).mono ?_;rintro e w3 ⟨rfl,hb3⟩
   go_wp2
   go_ret
   exact ⟨GH (by rw[hfin.out]),(hB.trans hb2).trans hb3⟩
end QuoteWalk
end Go.Proofs.YtnpdbhbmakdklaaGreatDoor
end
namespace Go.Proofs.YtnpdbhbmakdklaaGreatDoor.Vcg
variable {k N:Nat} {w:qj} {f:FsV} {args:List C} {n p:Int} {l:List (Int×Int)} {d:zX} {ns:List Lz} {xs:List zn} {x:zn} {a b:zB} {v:Lz}
section
open Go.RowKit
def phr:List Lz:=[[],[99,97,110,110,111,116,32,99,114,101,97,116,101,32,100,105,114,101,99,116,111,114,121,32,65,58,32,69],[99,97,110,110,111,116,32,114,101,109,111,118,101,32,65,58,32,69],[114,101,102,117,115,105,110,103,32,116,111,32,114,101,109,111,118,101,32,34,46,34,32,111,114,32,34,46,46,34,32,100,105,114,101,99,116,111,114,121,58,32,115,107,105,112,112,105,110,103,32,65],[105,116,32,105,115,32,100,97,110,103,101,114,111,117,115,32,116,111,32,111,112,101,114,97,116,101,32,114,101,99,117,114,115,105,118,101,108,121,32,111,110,32,65],[102,97,105,108,101,100,32,116,111,32,97,99,99,101,115,115,32,65,58,32,69],[65,58,32,104,97,114,100,32,108,105,110,107,32,110,111,116,32,97,108,108,111,119,101,100,32,102,111,114,32,100,105,114,101,99,116,111,114,121],[102,97,105,108,101,100,32,116,111,32,99,114,101,97,116,101,32,104,97,114,100,32,108,105,110,107,32,66,58,32,69],[102,97,105,108,101,100,32,116,111,32,99,114,101,97,116,101,32,115,121,109,98,111,108,105,99,32,108,105,110,107,32,66,58,32,69],[65,32,97,110,100,32,66,32,97,114,101,32,116,104,101,32,115,97,109,101,32,102,105,108,101],[116,97,114,103,101,116,32,65,32,105,115,32,110,111,116,32,97,32,100,105,114,101,99,116,111,114,121],[99,97,110,110,111,116,32,115,116,97,116,32,65,58,32,69],[99,97,110,110,111,116,32,111,118,101,114,119,114,105,116,101,32,110,111,110,45,100,105,114,101,99,116,111,114,121,32,66,32,119,105,116,104,32,100,105,114,101,99,116,111,114,121,32,65],[99,97,110,110,111,116,32,111,118,101,114,119,114,105,116,101,32,100,105,114,101,99,116,111,114,121,32,66,32,119,105,116,104,32,110,111,110,45,100,105,114,101,99,116,111,114,121,32,65],[99,97,110,110,111,116,32,109,111,118,101,32,65,32,116,111,32,97,32,115,117,98,100,105,114,101,99,116,111,114,121,32,111,102,32,105,116,115,101,108,102,44,32,66],[99,97,110,110,111,116,32,109,111,118,101,32,65,32,116,111,32,66,58,32,69],[45,114,32,110,111,116,32,115,112,101,99,105,102,105,101,100,59,32,111,109,105,116,116,105,110,103,32,100,105,114,101,99,116,111,114,121,32,65],[99,97,110,110,111,116,32,99,114,101,97,116,101,32,114,101,103,117,108,97,114,32,102,105,108,101,32,66,58,32,69],[99,97,110,110,111,116,32,99,114,101,97,116,101,32,115,121,109,98,111,108,105,99,32,108,105,110,107,32,66,58,32,69],[99,97,110,110,111,116,32,99,111,112,121,32,97,32,100,105,114,101,99,116,111,114,121,44,32,65,44,32,105,110,116,111,32,105,116,115,101,108,102,44,32,66],[110,111,116,32,119,114,105,116,105,110,103,32,116,104,114,111,117,103,104,32,100,97,110,103,108,105,110,103,32,115,121,109,108,105,110,107,32,66],[101,114,114,111,114,32,119,114,105,116,105,110,103,32,66,58,32,69],[99,97,110,110,111,116,32,99,114,101,97,116,101,32,100,105,114,101,99,116,111,114,121,32,66,58,32,69]]
def zt9:List Lz:=[[83,117,99,99,101,115,115],[78,111,32,115,117,99,104,32,102,105,108,101,32,111,114,32,100,105,114,101,99,116,111,114,121],[70,105,108,101,32,101,120,105,115,116,115],[78,111,116,32,97,32,100,105,114,101,99,116,111,114,121],[73,115,32,97,32,100,105,114,101,99,116,111,114,121],[68,105,114,101,99,116,111,114,121,32,110,111,116,32,101,109,112,116,121],[84,111,111,32,109,97,110,121,32,108,101,118,101,108,115,32,111,102,32,115,121,109,98,111,108,105,99,32,108,105,110,107,115],[70,105,108,101,32,110,97,109,101,32,116,111,111,32,108,111,110,103],[78,111,32,115,112,97,99,101,32,108,101,102,116,32,111,110,32,100,101,118,105,99,101],[73,110,118,97,108,105,100,32,97,114,103,117,109,101,110,116],[68,101,118,105,99,101,32,111,114,32,114,101,115,111,117,114,99,101,32,98,117,115,121],[79,112,101,114,97,116,105,111,110,32,110,111,116,32,112,101,114,109,105,116,116,101,100],[77,97,108,102,111,114,109,101,100,32,116,101,120,116],[78,111,116,32,105,110,32,116,104,101,32,115,116,97,115,104]]
def zqD:List Value:=[.string ⟨#[]⟩,.string ⟨#[]⟩,.int .i64 0,.string ⟨#[109,107,100,105,114]⟩,.string ⟨#[112]⟩,.int .i64 1,.string ⟨#[114,109]⟩,.string ⟨#[82,100,102,114]⟩,.int .i64 1,.string ⟨#[108,110]⟩,.string ⟨#[84,102,110,115]⟩,.int .i64 1,.string ⟨#[109,118]⟩,.string ⟨#[84,102,110]⟩,.int .i64 2,.string ⟨#[99,112]⟩,.string ⟨#[80,82,84,102,110,114]⟩,.int .i64 2]
def G2:zu:=fun g=>if g=1 then some (phr.map C.str) else if g=0 then some (zqD.map zE) else if g=2 then some (zt9.map C.str) else none
theorem zp2:G2 1=some [.str [],.str [99,97,110,110,111,116,32,99,114,101,97,116,101,32,100,105,114,101,99,116,111,114,121,32,65,58,32,69],.str [99,97,110,110,111,116,32,114,101,109,111,118,101,32,65,58,32,69],.str [114,101,102,117,115,105,110,103,32,116,111,32,114,101,109,111,118,101,32,34,46,34,32,111,114,32,34,46,46,34,32,100,105,114,101,99,116,111,114,121,58,32,115,107,105,112,112,105,110,103,32,65],.str [105,116,32,105,115,32,100,97,110,103,101,114,111,117,115,32,116,111,32,111,112,101,114,97,116,101,32,114,101,99,117,114,115,105,118,101,108,121,32,111,110,32,65],.str [102,97,105,108,101,100,32,116,111,32,97,99,99,101,115,115,32,65,58,32,69],.str [65,58,32,104,97,114,100,32,108,105,110,107,32,110,111,116,32,97,108,108,111,119,101,100,32,102,111,114,32,100,105,114,101,99,116,111,114,121],.str [102,97,105,108,101,100,32,116,111,32,99,114,101,97,116,101,32,104,97,114,100,32,108,105,110,107,32,66,58,32,69],.str [102,97,105,108,101,100,32,116,111,32,99,114,101,97,116,101,32,115,121,109,98,111,108,105,99,32,108,105,110,107,32,66,58,32,69],.str [65,32,97,110,100,32,66,32,97,114,101,32,116,104,101,32,115,97,109,101,32,102,105,108,101],.str [116,97,114,103,101,116,32,65,32,105,115,32,110,111,116,32,97,32,100,105,114,101,99,116,111,114,121],.str [99,97,110,110,111,116,32,115,116,97,116,32,65,58,32,69],.str [99,97,110,110,111,116,32,111,118,101,114,119,114,105,116,101,32,110,111,110,45,100,105,114,101,99,116,111,114,121,32,66,32,119,105,116,104,32,100,105,114,101,99,116,111,114,121,32,65],.str [99,97,110,110,111,116,32,111,118,101,114,119,114,105,116,101,32,100,105,114,101,99,116,111,114,121,32,66,32,119,105,116,104,32,110,111,110,45,100,105,114,101,99,116,111,114,121,32,65],.str [99,97,110,110,111,116,32,109,111,118,101,32,65,32,116,111,32,97,32,115,117,98,100,105,114,101,99,116,111,114,121,32,111,102,32,105,116,115,101,108,102,44,32,66],.str [99,97,110,110,111,116,32,109,111,118,101,32,65,32,116,111,32,66,58,32,69],.str [45,114,32,110,111,116,32,115,112,101,99,105,102,105,101,100,59,32,111,109,105,116,116,105,110,103,32,100,105,114,101,99,116,111,114,121,32,65],.str [99,97,110,110,111,116,32,99,114,101,97,116,101,32,114,101,103,117,108,97,114,32,102,105,108,101,32,66,58,32,69],.str [99,97,110,110,111,116,32,99,114,101,97,116,101,32,115,121,109,98,111,108,105,99,32,108,105,110,107,32,66,58,32,69],.str [99,97,110,110,111,116,32,99,111,112,121,32,97,32,100,105,114,101,99,116,111,114,121,44,32,65,44,32,105,110,116,111,32,105,116,115,101,108,102,44,32,66],.str [110,111,116,32,119,114,105,116,105,110,103,32,116,104,114,111,117,103,104,32,100,97,110,103,108,105,110,103,32,115,121,109,108,105,110,107,32,66],.str [101,114,114,111,114,32,119,114,105,116,105,110,103,32,66,58,32,69],.str [99,97,110,110,111,116,32,99,114,101,97,116,101,32,100,105,114,101,99,116,111,114,121,32,66,58,32,69]]:=rfl
theorem zko:G2 0=some [.str [],.str [],.sc (.int .i64 0),.str [109,107,100,105,114],.str [112],.sc (.int .i64 1),.str [114,109],.str [82,100,102,114],.sc (.int .i64 1),.str [108,110],.str [84,102,110,115],.sc (.int .i64 1),.str [109,118],.str [84,102,110],.sc (.int .i64 2),.str [99,112],.str [80,82,84,102,110,114],.sc (.int .i64 2)]:=rfl
theorem zmU:G2 2=some [.str [83,117,99,99,101,115,115],.str [78,111,32,115,117,99,104,32,102,105,108,101,32,111,114,32,100,105,114,101,99,116,111,114,121],.str [70,105,108,101,32,101,120,105,115,116,115],.str [78,111,116,32,97,32,100,105,114,101,99,116,111,114,121],.str [73,115,32,97,32,100,105,114,101,99,116,111,114,121],.str [68,105,114,101,99,116,111,114,121,32,110,111,116,32,101,109,112,116,121],.str [84,111,111,32,109,97,110,121,32,108,101,118,101,108,115,32,111,102,32,115,121,109,98,111,108,105,99,32,108,105,110,107,115],.str [70,105,108,101,32,110,97,109,101,32,116,111,111,32,108,111,110,103],.str [78,111,32,115,112,97,99,101,32,108,101,102,116,32,111,110,32,100,101,118,105,99,101],.str [73,110,118,97,108,105,100,32,97,114,103,117,109,101,110,116],.str [68,101,118,105,99,101,32,111,114,32,114,101,115,111,117,114,99,101,32,98,117,115,121],.str [79,112,101,114,97,116,105,111,110,32,110,111,116,32,112,101,114,109,105,116,116,101,100],.str [77,97,108,102,111,114,109,101,100,32,116,101,120,116],.str [78,111,116,32,105,110,32,116,104,101,32,115,116,97,115,104]]:=rfl
attribute [push_cast] zp2 zko zmU
def jC (k:Int):Lz:=if k=1 then [109,107,100,105,114] else if k=2 then [114,109] else if k=3 then [108,110] else if k=4 then [109,118] else if k=5 then [99,112] else []
def ja (k:Int):Lz:=if k=1 then [99,97,110,110,111,116,32,99,114,101,97,116,101,32,100,105,114,101,99,116,111,114,121,32,65,58,32,69] else if k=2 then [99,97,110,110,111,116,32,114,101,109,111,118,101,32,65,58,32,69] else if k=3 then [114,101,102,117,115,105,110,103,32,116,111,32,114,101,109,111,118,101,32,34,46,34,32,111,114,32,34,46,46,34,32,100,105,114,101,99,116,111,114,121,58,32,115,107,105,112,112,105,110,103,32,65] else if k=4 then [105,116,32,105,115,32,100,97,110,103,101,114,111,117,115,32,116,111,32,111,112,101,114,97,116,101,32,114,101,99,117,114,115,105,118,101,108,121,32,111,110,32,65] else if k=5 then [102,97,105,108,101,100,32,116,111,32,97,99,99,101,115,115,32,65,58,32,69] else if k=6 then [65,58,32,104,97,114,100,32,108,105,110,107,32,110,111,116,32,97,108,108,111,119,101,100,32,102,111,114,32,100,105,114,101,99,116,111,114,121] else if k=7 then [102,97,105,108,101,100,32,116,111,32,99,114,101,97,116,101,32,104,97,114,100,32,108,105,110,107,32,66,58,32,69] else if k=8 then [102,97,105,108,101,100,32,116,111,32,99,114,101,97,116,101,32,115,121,109,98,111,108,105,99,32,108,105,110,107,32,66,58,32,69] else if k=9 then [65,32,97,110,100,32,66,32,97,114,101,32,116,104,101,32,115,97,109,101,32,102,105,108,101] else if k=10 then [116,97,114,103,101,116,32,65,32,105,115,32,110,111,116,32,97,32,100,105,114,101,99,116,111,114,121] else if k=11 then [99,97,110,110,111,116,32,115,116,97,116,32,65,58,32,69] else if k=12 then [99,97,110,110,111,116,32,111,118,101,114,119,114,105,116,101,32,110,111,110,45,100,105,114,101,99,116,111,114,121,32,66,32,119,105,116,104,32,100,105,114,101,99,116,111,114,121,32,65] else if k=13 then [99,97,110,110,111,116,32,111,118,101,114,119,114,105,116,101,32,100,105,114,101,99,116,111,114,121,32,66,32,119,105,116,104,32,110,111,110,45,100,105,114,101,99,116,111,114,121,32,65] else if k=14 then [99,97,110,110,111,116,32,109,111,118,101,32,65,32,116,111,32,97,32,115,117,98,100,105,114,101,99,116,111,114,121,32,111,102,32,105,116,115,101,108,102,44,32,66] else if k=15 then [99,97,110,110,111,116,32,109,111,118,101,32,65,32,116,111,32,66,58,32,69] else if k=16 then [45,114,32,110,111,116,32,115,112,101,99,105,102,105,101,100,59,32,111,109,105,116,116,105,110,103,32,100,105,114,101,99,116,111,114,121,32,65] else if k=17 then [99,97,110,110,111,116,32,99,114,101,97,116,101,32,114,101,103,117,108,97,114,32,102,105,108,101,32,66,58,32,69] else if k=18 then [99,97,110,110,111,116,32,99,114,101,97,116,101,32,115,121,109,98,111,108,105,99,32,108,105,110,107,32,66,58,32,69] else if k=19 then [99,97,110,110,111,116,32,99,111,112,121,32,97,32,100,105,114,101,99,116,111,114,121,44,32,65,44,32,105,110,116,111,32,105,116,115,101,108,102,44,32,66] else if k=20 then [110,111,116,32,119,114,105,116,105,110,103,32,116,104,114,111,117,103,104,32,100,97,110,103,108,105,110,103,32,115,121,109,108,105,110,107,32,66] else if k=21 then [101,114,114,111,114,32,119,114,105,116,105,110,103,32,66,58,32,69] else if k=22 then [99,97,110,110,111,116,32,99,114,101,97,116,101,32,100,105,114,101,99,116,111,114,121,32,66,58,32,69] else []
def vS (k:Int):Lz:=if k=0 then [83,117,99,99,101,115,115] else if k=1 then [78,111,32,115,117,99,104,32,102,105,108,101,32,111,114,32,100,105,114,101,99,116,111,114,121] else if k=2 then [70,105,108,101,32,101,120,105,115,116,115] else if k=3 then [78,111,116,32,97,32,100,105,114,101,99,116,111,114,121] else if k=4 then [73,115,32,97,32,100,105,114,101,99,116,111,114,121] else if k=5 then [68,105,114,101,99,116,111,114,121,32,110,111,116,32,101,109,112,116,121] else if k=6 then [84,111,111,32,109,97,110,121,32,108,101,118,101,108,115,32,111,102,32,115,121,109,98,111,108,105,99,32,108,105,110,107,115] else if k=7 then [70,105,108,101,32,110,97,109,101,32,116,111,111,32,108,111,110,103] else if k=8 then [78,111,32,115,112,97,99,101,32,108,101,102,116,32,111,110,32,100,101,118,105,99,101] else if k=9 then [73,110,118,97,108,105,100,32,97,114,103,117,109,101,110,116] else if k=10 then [68,101,118,105,99,101,32,111,114,32,114,101,115,111,117,114,99,101,32,98,117,115,121] else if k=11 then [79,112,101,114,97,116,105,111,110,32,110,111,116,32,112,101,114,109,105,116,116,101,100] else if k=12 then [77,97,108,102,111,114,109,101,100,32,116,101,120,116] else if k=13 then [78,111,116,32,105,110,32,116,104,101,32,115,116,97,115,104] else [85,110,107,110,111,119,110,32,101,114,114,111,114]
theorem yt (k:Int):Fun Tryz.prog G2 117 [.sc (.int .i64 k)] (.str (jC k)) 0:=by
 by_cases h1:1<=k
 ·by_cases h2:k<=5
  ·have hc:k=1∨k=2∨k=3∨k=4∨k=5:=by omega
   clear h1 h2;rcases hc with rfl | rfl | rfl | rfl | rfl
   all_goals
    refine fon Tryz.func117 ?_;dsimp only[Tryz.f117];push_cast;exact ⟨[],rfl,rfl,by simp only[jC];push_cast [ze,zd,CLe,zh]<;>rfl⟩
  ·have n1:¬k=1:=(by omega);have n2:¬k=2:=(by omega);have n3:¬k=3:=(by omega);have n4:¬k=4:=(by omega);have n5:¬k=5:=(by omega);have f1:¬k<1:=(by omega);have f2:6<=k:=(by omega);have f3:5<k:=(by omega);refine fon Tryz.func117 ?_;dsimp only[Tryz.f117];push_cast [f1,f2,f3,n1,n2,n3,n4,n5];exact ⟨[],rfl,rfl,by push_cast [ze,zd,CLe,zh]<;>simp[jC,n1,n2,n3,n4,n5]⟩
 ·have n1:¬k=1:=(by omega);have n2:¬k=2:=(by omega);have n3:¬k=3:=(by omega);have n4:¬k=4:=(by omega);have n5:¬k=5:=(by omega);have f1:k<1:=by omega
  refine fon Tryz.func117 ?_;dsimp only[Tryz.f117];push_cast [f1,n1,n2,n3,n4,n5];exact ⟨[],rfl,rfl,by push_cast [ze,zd,CLe,zh]<;>simp[jC,n1,n2,n3,n4,n5]⟩
theorem yL (k:Int):Fun Tryz.prog G0 38 [.sc (.int .i64 k)] (.str (jC k)) 0:=by
 by_cases h1:1<=k
 ·by_cases h2:k<=5
  ·have hc:k=1∨k=2∨k=3∨k=4∨k=5:=by omega
   clear h1 h2;rcases hc with rfl | rfl | rfl | rfl | rfl
   all_goals
    refine fon Tryz.func38 ?_;dsimp only[Tryz.f38];push_cast;exact ⟨[],rfl,rfl,by simp only[jC];push_cast [ze,zd,CLe,zh]<;>rfl⟩
  ·have n1:¬k=1:=(by omega);have n2:¬k=2:=(by omega);have n3:¬k=3:=(by omega);have n4:¬k=4:=(by omega);have n5:¬k=5:=(by omega);have f1:¬k<1:=(by omega);have f2:6<=k:=(by omega);have f3:5<k:=(by omega);refine fon Tryz.func38 ?_;dsimp only[Tryz.f38];push_cast [f1,f2,f3,n1,n2,n3,n4,n5];exact ⟨[],rfl,rfl,by push_cast [ze,zd,CLe,zh]<;>simp[jC,n1,n2,n3,n4,n5]⟩
 ·have n1:¬k=1:=(by omega);have n2:¬k=2:=(by omega);have n3:¬k=3:=(by omega);have n4:¬k=4:=(by omega);have n5:¬k=5:=(by omega);have f1:k<1:=by omega
  refine fon Tryz.func38 ?_;dsimp only[Tryz.f38];push_cast [f1,n1,n2,n3,n4,n5];exact ⟨[],rfl,rfl,by push_cast [ze,zd,CLe,zh]<;>simp[jC,n1,n2,n3,n4,n5]⟩
theorem zcz (k:Int):Fun Tryz.prog G2 118 [.sc (.int .i64 k)] (.str (ja k)) 0:=by
 by_cases h1:0<=k
 ·by_cases h2:k<=22
  ·have hc:k=0∨k=1∨k=2∨k=3∨k=4∨k=5∨k=6∨k=7∨k=8∨k=9∨k=10∨k=11∨k=12∨k=13∨k=14∨k=15∨k=16∨k=17∨k=18∨k=19∨k=20∨k=21∨k=22:=by omega
   clear h1 h2;rcases hc with rfl | rfl | rfl | rfl | rfl | rfl | rfl | rfl | rfl | rfl | rfl | rfl | rfl | rfl | rfl | rfl | rfl | rfl | rfl | rfl | rfl | rfl | rfl
   all_goals
    refine fon Tryz.func118 ?_;dsimp only[Tryz.f118];push_cast;exact ⟨[],rfl,rfl,by simp only[ja];push_cast [ze,zd,CLe,zh]<;>rfl⟩
  ·have n1:¬k=1:=(by omega);have n2:¬k=2:=(by omega);have n3:¬k=3:=(by omega);have n4:¬k=4:=(by omega);have n5:¬k=5:=(by omega);have n6:¬k=6:=(by omega);have n7:¬k=7:=(by omega);have n8:¬k=8:=(by omega);have n9:¬k=9:=(by omega);have n10:¬k=10:=(by omega);have n11:¬k=11:=(by omega);have n12:¬k=12:=(by omega);have n13:¬k=13:=(by omega);have n14:¬k=14:=(by omega);have n15:¬k=15:=(by omega);have n16:¬k=16:=(by omega);have n17:¬k=17:=(by omega);have n18:¬k=18:=(by omega);have n19:¬k=19:=(by omega);have n20:¬k=20:=(by omega);have n21:¬k=21:=(by omega);have n22:¬k=22:=(by omega);have f1:¬k<0:=(by omega);have f2:23<=k:=(by omega);have f3:22<k:=(by omega);refine fon Tryz.func118 ?_;dsimp only[Tryz.f118];push_cast [f1,f2,f3,n1,n2,n3,n4,n5,n6,n7,n8,n9,n10,n11,n12,n13,n14,n15,n16,n17,n18,n19,n20,n21,n22];exact ⟨[],rfl,rfl,by push_cast [ze,zd,CLe,zh]<;>simp[ja,n1,n2,n3,n4,n5,n6,n7,n8,n9,n10,n11,n12,n13,n14,n15,n16,n17,n18,n19,n20,n21,n22]⟩
 ·have n1:¬k=1:=(by omega);have n2:¬k=2:=(by omega);have n3:¬k=3:=(by omega);have n4:¬k=4:=(by omega);have n5:¬k=5:=(by omega);have n6:¬k=6:=(by omega);have n7:¬k=7:=(by omega);have n8:¬k=8:=(by omega);have n9:¬k=9:=(by omega);have n10:¬k=10:=(by omega);have n11:¬k=11:=(by omega);have n12:¬k=12:=(by omega);have n13:¬k=13:=(by omega);have n14:¬k=14:=(by omega);have n15:¬k=15:=(by omega);have n16:¬k=16:=(by omega);have n17:¬k=17:=(by omega);have n18:¬k=18:=(by omega);have n19:¬k=19:=(by omega);have n20:¬k=20:=(by omega);have n21:¬k=21:=(by omega);have n22:¬k=22:=(by omega);have f1:k<0:=by omega
  refine fon Tryz.func118 ?_;dsimp only[Tryz.f118];push_cast [f1,n1,n2,n3,n4,n5,n6,n7,n8,n9,n10,n11,n12,n13,n14,n15,n16,n17,n18,n19,n20,n21,n22];exact ⟨[],rfl,rfl,by push_cast [ze,zd,CLe,zh]<;>simp[ja,n1,n2,n3,n4,n5,n6,n7,n8,n9,n10,n11,n12,n13,n14,n15,n16,n17,n18,n19,n20,n21,n22]⟩
theorem uu (k:Int):Fun Tryz.prog G2 164 [.sc (.int .i64 k)] (.str (vS k)) 0:=by
 by_cases h1:0<=k
 ·by_cases h2:k<=13
  ·have hc:k=0∨k=1∨k=2∨k=3∨k=4∨k=5∨k=6∨k=7∨k=8∨k=9∨k=10∨k=11∨k=12∨k=13:=by omega
   clear h1 h2;rcases hc with rfl | rfl | rfl | rfl | rfl | rfl | rfl | rfl | rfl | rfl | rfl | rfl | rfl | rfl
   all_goals
    refine fon Tryz.func164 ?_;dsimp only[Tryz.f164];push_cast;exact ⟨[],rfl,rfl,by simp only[vS];push_cast [ze,zd,CLe,zh]<;>rfl⟩
  ·have n0:¬k=0:=(by omega);have n1:¬k=1:=(by omega);have n2:¬k=2:=(by omega);have n3:¬k=3:=(by omega);have n4:¬k=4:=(by omega);have n5:¬k=5:=(by omega);have n6:¬k=6:=(by omega);have n7:¬k=7:=(by omega);have n8:¬k=8:=(by omega);have n9:¬k=9:=(by omega);have n10:¬k=10:=(by omega);have n11:¬k=11:=(by omega);have n12:¬k=12:=(by omega);have n13:¬k=13:=(by omega);have f1:¬k<0:=(by omega);have f2:14<=k:=(by omega);have f3:13<k:=(by omega);refine fon Tryz.func164 ?_;dsimp only[Tryz.f164];push_cast [f1,f2,f3,n0,n1,n2,n3,n4,n5,n6,n7,n8,n9,n10,n11,n12,n13];exact ⟨[],rfl,rfl,by push_cast [ze,zd,CLe,zh]<;>simp[vS,n0,n1,n2,n3,n4,n5,n6,n7,n8,n9,n10,n11,n12,n13]⟩
 ·have n0:¬k=0:=(by omega);have n1:¬k=1:=(by omega);have n2:¬k=2:=(by omega);have n3:¬k=3:=(by omega);have n4:¬k=4:=(by omega);have n5:¬k=5:=(by omega);have n6:¬k=6:=(by omega);have n7:¬k=7:=(by omega);have n8:¬k=8:=(by omega);have n9:¬k=9:=(by omega);have n10:¬k=10:=(by omega);have n11:¬k=11:=(by omega);have n12:¬k=12:=(by omega);have n13:¬k=13:=(by omega);have f1:k<0:=by omega
  refine fon Tryz.func164 ?_;dsimp only[Tryz.f164];push_cast [f1,n0,n1,n2,n3,n4,n5,n6,n7,n8,n9,n10,n11,n12,n13];exact ⟨[],rfl,rfl,by push_cast [ze,zd,CLe,zh]<;>simp[vS,n0,n1,n2,n3,n4,n5,n6,n7,n8,n9,n10,n11,n12,n13]⟩
open QuotePlain in
theorem xV (l:Lz) (hl:l.length<=1000000):Fun Tryz.prog G0 163 [.str l] (.str (quoteL l)) 0:=by
 refine Fun.wrap (by kernel_rfl) fun R vs h=>?_;obtain ⟨v1,us1,rfl,h1,h⟩:=zi.1 h;rw[zo]at h;subst h;rw[z7]at h1;subst h1;refine (QuoteWalk.quote_walk ⟨l.toArray⟩ R.w (by simp[ByteArray.size];omega)).mono ?_;rintro e w' ⟨rfl,hb⟩;exact ⟨_,rfl,hb,fun R' _=>z7.2 (by simp[Kit.ofL,Kit.toL])⟩
open QuotePlain in
theorem Zb (l:Lz) (hl:l.length<=1000000):Fun Tryz.prog G0 63 [.str l] (.str (quoteL l)) 0:=by
 refine Fun.wrap (by kernel_rfl) fun R vs h=>?_;obtain ⟨v1,us1,rfl,h1,h⟩:=zi.1 h;rw[zo]at h;subst h;rw[z7]at h1;subst h1;refine (QuoteWalk.refQuote_walk ⟨l.toArray⟩ R.w (by simp[ByteArray.size];omega)).mono ?_;rintro e w' ⟨rfl,hb⟩;exact ⟨_,rfl,hb,fun R' _=>z7.2 (by simp[Kit.ofL,Kit.toL])⟩
end
section
open Go.RowKit
theorem Fun.res {P:Program} {G:zu} {f:FuncId} {r r':C} {n:Nat} (h:Fun P G f args r n) (e:r=r'):Fun P G f args r' n:=e▸h
theorem Mw.glob0 {P:Program} {G':zu} {f:FuncId} {bx bx':List (List C)} {q:Nat} {r:C} {n:Nat} (h:Mw P G0 f args bx q r bx' n):Mw P G' f args bx q r bx' n:=
 ⟨h.1,fun R L vs hg=>h.2 R L vs fun g cs e=>by cases e⟩
theorem yR.glob0 {P:Program} {G':zu} {f:FuncId} {first cap:List C} {bx items:List (List C)} (h:yR P G0 f first cap bx items):yR P G' f first cap bx items:=
 ⟨h.1,fun l st J R L us vs hg=>h.2 l st J R L us vs fun g cs e=>by cases e⟩
def ZH (c:UInt8):Lz->List Lz
 | []=>[[]]
 | b :: l=>if b=c then [] :: ZH c l else match ZH c l with
  | []=>[[b]]
  | x :: r=>(b :: x) :: r
theorem Hk (c:UInt8):∀ l:Lz,Lib.indexByte l c<0->ZH c l = [l]
 | [],_=>rfl
 | b :: l,h=>by
  unfold Lib.indexByte at h;by_cases hb:b=c
  ·subst hb;simp at h
  ·have hb':(b==c)=false:=by simpa using hb
   rw[hb']at h;simp only[WX,Oh]at h;have hl:Lib.indexByte l c<0:=by
    split at h
    ·rename_i g;have:=OE.1 g;omega
    ·omega
   unfold ZH;rw[if_neg hb,Hk c l hl]
theorem kp (c:UInt8):∀ l:Lz,-1<=Lib.indexByte l c
 | []=>O0 _
 | b :: l=>by
  have:=kp c l;unfold Lib.indexByte;split
  ·decide
  ·split
   ·decide
   ·omega
theorem x9 (c:UInt8):∀ (l:Lz) (i:Nat),Lib.indexByte l c=(i:Int)->i<l.length/\ZH c l=l.take i :: ZH c (l.drop (i+1))
 | [],i,h=>by
  have h:(-1:Int)=(i:Int):=h;omega
 | b :: l,i,h=>by
  unfold Lib.indexByte at h;by_cases hb:b=c
  ·subst hb;simp at h;obtain rfl:i=0:=by omega
   refine ⟨by simp,?_⟩
   conv=>lhs;unfold ZH
   simp
  ·have hb':(b==c)=false:=by simpa using hb
   rw[hb']at h;simp only[WX,Oh]at h;split at h
   ·omega
   ·rename_i g;have g':Lib.indexByte l c≠-1:=by simpa using g
    have hg:=kp c l;obtain ⟨j,rfl⟩:∃ j,i=j+1:=⟨i-1,by omega⟩;have hj:Lib.indexByte l c=(j:Int):=by omega
    obtain ⟨h1,h2⟩:=x9 c l j hj;refine ⟨by simp;omega,?_⟩
    conv=>lhs;unfold ZH
    rw[if_neg hb,h2];simp
theorem vz (c:UInt8) (l:Lz):(ZH c l).length<=l.length+1:=by
 induction l with
 | nil=>simp[ZH]
 | cons b l ih =>
  unfold ZH;split
  ·simp;omega
  ·split
   ·simp
   ·rename_i x r h;rw[h]at ih;simp at ih ⊢;omega
theorem zco (c:UInt8) (l:Lz):Fun Tryz.prog G0 192 [.str l,.str [c]] (.sc (.int .i64 (Lib.indexByte l c))) 0:=by
 refine Fun.wrap (by kernel_rfl) fun R vs h=>?_;obtain ⟨v1,us1,rfl,h1,h⟩:=zi.1 h;obtain ⟨v2,us2,rfl,h2,h⟩:=zi.1 h;rw[zo]at h;subst h;rw[z7]at h1 h2;subst h1 h2;refine (Tryz.strings_Index_one ⟨l.toArray⟩ c R.w).mono ?_;rintro e w' ⟨rfl,rfl⟩;exact ⟨_,rfl,Oa _ _,fun R' _=>zt.2 (by simp)⟩
theorem xS (c:UInt8) (s:Lz) (hs:s.length<=1000000):yR Tryz.prog G0 190 [] [.ptr 1 0,.ptr 0 0,.ptr 2 0] [[.str s],[.str [c]],[.sc (.int .i64 0)]] (zV (ZH c s)):=by
 refine foI (fun _=>[]) Tryz.func190 ?_;dsimp only[Tryz.f190];intro l sf;push_cast;refine loop (fun x:Lz×Nat=>⟨[(0,.sc (.func (.yield l) #[] #[])),(1,.ptr 1 0),(2,.ptr 0 0),(3,.ptr 2 0)],[[.str x.1],[.str [c]],[.sc (.int .i64 0)]],0,x.2⟩)
  (fun x=>x.1.length<=1000000/\(∃ done,ZH c s=done++ZH c x.1/\done.length=x.2)/\∀ j,j<x.2->sf j=false) (fun x=>x.1.length) (s,0) ⟨hs,⟨[],rfl,rfl⟩,fun j hj=>by omega⟩ ?_ ?_
 ·refine JY.mk [] rfl rfl (Wb _) rfl ?_ ?_<;>push_cast [ze,zd,CLe,zh]<;>omega
 ·rintro ⟨r,k⟩ hx;simp only at hx ⊢;have hr:=hx.1;have hsf:=hx.2.2;obtain ⟨done,hd,hdl⟩:=hx.2.1;clear hx;push_cast;refine call (zco c r) ?_;push_cast;by_cases hi:Lib.indexByte r c<0
  ·push_cast [hi];have hk:(zV (ZH c s))[k]?=some [.str r]:=by
    rw[hd,Hk c r hi];simp[←hdl]
   rw[hk];push_cast;refine ⟨by push_cast [ze,zd,CLe,zh],hsf,?_⟩;cases hk2:sf k with
   | true=>exact .inr ⟨A3 k,hk2⟩
   | false =>
    refine .inl ⟨?_,fun j (hj:j<k+1)=>?_⟩
    ·rw[hd,Hk c r hi];simp[hdl]
    ·rcases Wr j k with g | g
     ·exact hsf j g
     ·rw[show j=k by omega];exact hk2
  ·have hg:=kp c r;obtain ⟨i,hii⟩:∃ i:Nat,Lib.indexByte r c=(i:Int):=⟨(Lib.indexByte r c).toNat,by omega⟩;obtain ⟨hir,hsp⟩:=x9 c r i hii;have hk:(zV (ZH c s))[k]?=some [.str (r.take i)]:=by
    rw[hd,hsp];simp[←hdl]
   rw[hii]at hi ⊢;push_cast [hi];rw[hk];push_cast;refine ⟨by omega,by omega,by push_cast [ze,zd,CLe,zh],hsf,br (fun hk2=>?_) (fun hk2=>?_)⟩
   ·push_cast;exact .inr ⟨A3 k,hk2⟩
   ·push_cast;refine ⟨by omega,by omega,(r.drop (i+1),k+1),⟨by simp;omega,⟨done++[r.take i],by rw[hd,hsp];simp,by simp[hdl]⟩,fun j (hj:j<k+1)=>?_⟩,by simp;omega,JY.mk [] rfl rfl (Wb _) rfl ?_ ?_⟩
    ·rcases Wr j k with g | g
     ·exact hsf j g
     ·rw[show j=k by omega];exact hk2
    ·push_cast [ze,zd,CLe,zh]
    ·push_cast [ze,zd,CLe,zh]
theorem NQ (c:UInt8) (s:Lz):Mw Tryz.prog G0 161 [.str s,.str [c],.sc (.int .i64 0)] [] 0 (.clo (.func 190) [] [.ptr 1 0,.ptr 0 0,.ptr 2 0]) [[.str s],[.str [c]],[.sc (.int .i64 0)]] 0:=by
 refine foB (fun _=>[]) Tryz.func161 ?_;dsimp only[Tryz.f161];push_cast;exact ⟨[],rfl,rfl,by push_cast [ze,zd,CLe,zh],by push_cast [ze,zd,CLe,zh]⟩
theorem N0 (c:UInt8) (s:Lz):Mw Tryz.prog G0 119 [.str s,.str [c]] [] 0 (.clo (.func 190) [] [.ptr 1 0,.ptr 0 0,.ptr 2 0]) [[.str s],[.str [c]],[.sc (.int .i64 0)]] 0:=by
 refine foB (fun _=>[]) Tryz.func119 ?_;dsimp only[Tryz.f119];push_cast;refine VS [] [] (NQ c s) rfl (by simp) (by simp) (fun i hi=>by cases hi) (by push_cast) rfl ?_;push_cast;exact ⟨[],rfl,rfl,by push_cast [ze,zd,CLe,zh],by push_cast [ze,zd,CLe,zh]⟩
end
section
open CA CB
open Go.RowKit QuotePlain
def XH (l:Lz):Lz:=Lib.trimRightS l [58,44]
theorem zet (l:Lz):(XH l).length<=l.length:=by
 unfold XH Lib.trimRightS;rw[Bq];have:=(List.dropWhile_sublist (([58,44]:Lz).contains ·) (l:=l.reverse)).length_le;rw[Bq]at this;exact this
theorem ziN (l:Lz) (h0:l≠[]) (hl:l.length<=1000000):Fun Tryz.prog G0 162 [.str l,.str [58,44]] (.str (XH l)) 0:=by
 refine Fun.wrap (by kernel_rfl) fun R vs h=>?_;obtain ⟨v1,us1,rfl,h1,h⟩:=zi.1 h;obtain ⟨v2,us2,rfl,h2,h⟩:=zi.1 h;rw[zo]at h;subst h;rw[z7]at h1 h2;subst h1 h2;have hpos:=WI.2 h0;refine (Any.strings_TrimRight_set Tryz.lays162 Gv (by kernel_rfl) ⟨l.toArray⟩ ⟨#[58,44]⟩ R.w (by decide) (by simpa [ByteArray.size] using hpos) (by simp[ByteArray.size];omega) (by decide) (fun j b hb=>?_)).mono ?_
 ·match j,hb with
  | 0,hb=>cases hb;decide
  | 1,hb=>cases hb;decide
  | j+2,hb=>simp at hb
 ·rintro e w' ⟨rfl,rfl⟩;exact ⟨_,rfl,((Oa _ _).alloc (Wc _) _).alloc (by simp) _,fun R' _=>z7.2 (by simp[XH])⟩
def ZN (w qa qb m:Lz):Lz:=
 if XH w = [65] then qa++w.drop (XH w).length else if XH w = [66] then qb++w.drop (XH w).length else if XH w = [69] then m++w.drop (XH w).length else w
theorem QT (l:Lz):(quoteL l).length<=4*l.length+2:=by
 have:=QuoteWalk.mid_len l;simp only[quoteL,Wh,Wn,WG];omega
theorem zaw (e:Int):(vS e).length<=100:=by
 have key:∀ (c:Prop) [Decidable c] (x y:Lz),x.length<=100->y.length<=100->(if c then x else y).length<=100:=fun c _ x y hx hy=>by
  by_cases h:c
  ·rw[if_pos h];exact hx
  ·rw[if_neg h];exact hy
 unfold vS
 repeat' (first | decide | refine key _ _ _ (by decide) ?_)
theorem zif (w a b:Lz) (e:Int) (ha:a.length<=3000) (hb:b.length<=3000):(ZN w (quoteL a) (quoteL b) (vS e)).length<=w.length+25000:=by
 have h1:=QT a;have h2:=QT b;have h3:=zaw e;unfold ZN
 repeat' split
 all_goals (try simp only[Wn,W3]);omega
theorem zj3 (w a b:Lz) (e:Int) (h0:w≠[]) (hw:w.length<=1000) (ha:a.length<=3000) (hb:b.length<=3000):Fun Tryz.prog G2 120 [.str w,.str a,.str b,.sc (.int .i64 e)] (.str (ZN w (quoteL a) (quoteL b) (vS e))) 0:=by
 have h1:=(ziN w h0 (by omega)).glob0 (G':=G2);have h2:=(xV a (by omega)).glob0 (G':=G2);have h3:=(xV b (by omega)).glob0 (G':=G2);have h4:=uu e;have hl:=zet w;have l1:=QT a;have l2:=QT b;have l3:=zaw e;by_cases hA:XH w = [65]
 ·refine fon Tryz.func120 ?_;dsimp only[Tryz.f120];push_cast;refine cl h1 ?_;push_cast
  repeat refine an ?_
  push_cast [hA];refine cl h2 ?_;push_cast
  repeat refine an ?_
  exact ⟨[],rfl,rfl,by push_cast [ze,zd,CLe,zh]<;>simp[ZN,hA]⟩
 ·by_cases hB:XH w = [66]
  ·have hA':¬([66]:Lz) = [65]:=by decide
   refine fon Tryz.func120 ?_;dsimp only[Tryz.f120];push_cast;refine cl h1 ?_;push_cast
   repeat refine an ?_
   push_cast [hB,hA'];refine cl h3 ?_;push_cast
   repeat refine an ?_
   exact ⟨[],rfl,rfl,by push_cast [ze,zd,CLe,zh]<;>simp[ZN,hB]⟩
  ·by_cases hE:XH w = [69]
   ·have hA':¬([69]:Lz) = [65]:=by decide
    have hB':¬([69]:Lz) = [66]:=by decide
    refine fon Tryz.func120 ?_;dsimp only[Tryz.f120];push_cast;refine cl h1 ?_;push_cast
    repeat refine an ?_
    push_cast [hE,hA',hB'];refine cl h4 ?_;push_cast
    repeat refine an ?_
    exact ⟨[],rfl,rfl,by push_cast [ze,zd,CLe,zh]<;>simp[ZN,hE]⟩
   ·refine fon Tryz.func120 ?_;dsimp only[Tryz.f120];push_cast;refine cl h1 ?_;push_cast
    repeat refine an ?_
    push_cast [hA,hB,hE];exact ⟨[],rfl,rfl,by push_cast [ze,zd,CLe,zh]<;>simp[ZN,hA,hB,hE]⟩
theorem zke (xs:List Lz) (hx:xs.length<=1000001) (hl:(Lib.join xs [58,32]).length<=100000000):Fun Tryz.prog G0 121 [.sl 1 (zV xs)] (.str (Lib.join xs [58,32])) 0:=by
 refine fon Tryz.func121 ?_;dsimp only[Tryz.f121];push_cast;refine cl (No xs [58,32] hx hl) ?_;push_cast;exact dn
end
section
open CA CB
open Go.RowKit QuotePlain
abbrev Atm:=Nat ⊕ UInt8
def ztv (w:Lz):List Atm:=
 if XH w = [65] then .inl 0 :: (w.drop (XH w).length).map .inr else if XH w = [66] then .inl 1 :: (w.drop (XH w).length).map .inr else if XH w = [69] then .inl 2 :: (w.drop (XH w).length).map .inr else w.map .inr
def vA (qa qb m:Lz):Atm->Lz
 | .inl 0=>qa
 | .inl 1=>qb
 | .inl _=>m
 | .inr b=>[b]
def flA (qa qb m:Lz):List Atm->Lz
 | []=>[]
 | [a]=>vA qa qb m a
 | a :: b :: r=>vA qa qb m a++flA qa qb m (b :: r)
theorem XN (qa qb m:Lz):∀ l:List Atm,flA qa qb m l=l.flatMap (vA qa qb m)
 | []=>rfl
 | [a]=>by simp[flA]
 | a :: b :: r=>by rw[flA,XN qa qb m (b :: r)];rfl
def zee (k:Int):List Atm:=List.intercalate [.inr 32] ((ZH 32 (ja k)).map ztv)
def zsy (k:Int) (qa qb m:Lz):Lz:=flA qa qb m (zee k)
theorem zjE (qa qb m l:Lz):flA qa qb m (l.map .inr)=l:=by
 rw[XN]
 induction l with
 | nil=>rfl
 | cons b r ih=>exact Wu (b :: ·) ih
theorem Ns (qa qb m:Lz) (a:Atm) (l:List Atm):flA qa qb m (a :: l)=vA qa qb m a++flA qa qb m l:=by rw[XN,XN];rfl
theorem zla (w qa qb m:Lz):ZN w qa qb m=flA qa qb m (ztv w):=by
 have h:=fun l=>zjE qa qb m l;unfold ZN ztv;split
 ·rw[Ns,h];rfl
 ·split
  ·rw[Ns,h];rfl
  ·split
   ·rw[Ns,h];rfl
   ·rw[h]
theorem zfC (qa qb m:Lz) (a b:List Atm):flA qa qb m (a++b)=flA qa qb m a++flA qa qb m b:=by rw[XN,XN,XN];exact Bp
theorem zaz (qa qb m:Lz):∀ ws:List (List Atm),flA qa qb m (List.intercalate [.inr 32] ws)=List.intercalate [32] (ws.map (flA qa qb m))
 | []=>rfl
 | [w]=>by simp[List.intercalate,List.intersperse]
 | w :: v :: r=>by
  have ih:=zaz qa qb m (v :: r);have e1:List.intercalate [(.inr 32:Atm)] (w :: v :: r)=w++([.inr 32]++List.intercalate [.inr 32] (v :: r)):=by simp[List.intercalate,List.intersperse]
  have e2:List.intercalate [(32:UInt8)] ((w :: v :: r).map (flA qa qb m))=flA qa qb m w++([32]++List.intercalate [32] ((v :: r).map (flA qa qb m))):=by simp[List.intercalate,List.intersperse]
  rw[e1,e2,zfC,zfC,ih]
  rfl
theorem zlg (k:Int) (qa qb m:Lz):Lib.join ((ZH 32 (ja k)).map fun w=>ZN w qa qb m) [32]=zsy k qa qb m:=by
 unfold zsy zee;rw[zaz,List.map_map];show List.intercalate [32] _=_;congr 1;exact A7 fun w _=>zla w qa qb m
theorem zam (k:Int) (h:¬(1<=k/\k<=22)):ja k = []:=by
 have n1:¬k=1:=by omega
 have n2:¬k=2:=by omega
 have n3:¬k=3:=by omega
 have n4:¬k=4:=by omega
 have n5:¬k=5:=by omega
 have n6:¬k=6:=by omega
 have n7:¬k=7:=by omega
 have n8:¬k=8:=by omega
 have n9:¬k=9:=by omega
 have n10:¬k=10:=by omega
 have n11:¬k=11:=by omega
 have n12:¬k=12:=by omega
 have n13:¬k=13:=by omega
 have n14:¬k=14:=by omega
 have n15:¬k=15:=by omega
 have n16:¬k=16:=by omega
 have n17:¬k=17:=by omega
 have n18:¬k=18:=by omega
 have n19:¬k=19:=by omega
 have n20:¬k=20:=by omega
 have n21:¬k=21:=by omega
 have n22:¬k=22:=by omega
 simp only[ja,n1,n2,n3,n4,n5,n6,n7,n8,n9,n10,n11,n12,n13,n14,n15,n16,n17,n18,n19,n20,n21,n22,Oh]
theorem yA (k:Int):ja k = []∨((∀ x∈ZH 32 (ja k),x≠[]/\x.length<=100)/\(ja k).length<=100):=by
 by_cases h:1<=k/\k<=22
 ·refine .inr ?_;have hc:k=1∨k=2∨k=3∨k=4∨k=5∨k=6∨k=7∨k=8∨k=9∨k=10∨k=11∨k=12∨k=13∨k=14∨k=15∨k=16∨k=17∨k=18∨k=19∨k=20∨k=21∨k=22:=by omega
  clear h;rcases hc with rfl | rfl | rfl | rfl | rfl | rfl | rfl | rfl | rfl | rfl | rfl | rfl | rfl | rfl | rfl | rfl | rfl | rfl | rfl | rfl | rfl | rfl<;>exact ⟨by decide +kernel,by decide +kernel⟩
 ·exact .inl (zam k h)
theorem x0 (f:Lz->Lz) (n:Nat):∀ xs:List Lz,(∀ x∈xs,(f x).length<=n)->((xs.map f).map fun x=>x.length+1).sum<=xs.length*(n+1)
 | [],_=>by simp
 | x :: r,h=>by
  have ih:=x0 f n r fun y hy=>h y (Wl _ hy);have:=h x Wk;simp only[Wq,OY,Wh,Oq];omega
theorem zbY (xs:List Lz) (sep:Lz) (n:Nat) (hs:sep.length<=1) (h:(xs.map fun x=>x.length+1).sum<=n):(Lib.join xs sep).length<=n:=by
 have key:∀ xs:List Lz,(Lib.join xs sep).length<=(xs.map fun x=>x.length+1).sum:=by
  intro xs
  match xs with
  | []=>simp[Lib.join]
  | [x]=>simp[Lib.join_one]
  | x :: y :: r =>
   have ih:∀ (zs:List Lz) (z:Lz),(Lib.join (z :: zs) sep).length<=((z :: zs).map fun x=>x.length+1).sum:=by
    intro zs
    induction zs with
    | nil=>intro z;simp[Lib.join_one]
    | cons u t iht =>
     intro z;rw[Jq];have:=iht u;simp only[Wn,Wq,OY]at this ⊢;omega
   exact ih (y :: r) x
 exact WJ (key xs) h
def Qb (k w:Int) (a b:Lz) (e:Int):Lz:=
 if jC k = [] then [] else if ja w = [] then [] else jC k++[58,32]++zsy w (quoteL a) (quoteL b) (vS e)
theorem zgg (k:Int):(jC k).length<=10:=by
 have key:∀ (c:Prop) [Decidable c] (x y:Lz),x.length<=10->y.length<=10->(if c then x else y).length<=10:=fun c _ x y hx hy=>by
  by_cases h:c
  ·rw[if_pos h];exact hx
  ·rw[if_neg h];exact hy
 unfold jC
 repeat' (first | decide | refine key _ _ _ (by decide) ?_)
theorem zja (k w:Int) (a b:Lz) (e:Int) (ha:a.length<=3000) (hb:b.length<=3000):Fun Tryz.prog G2 71 [.sc (.int .i64 k),.sc (.int .i64 w),.str a,.str b,.sc (.int .i64 e)] (.str (Qb k w a b e)) 0:=by
 have h1:=yt k;have h2:=zcz w;have hnl:=zgg k;by_cases hn:jC k = []
 ·rw[hn]at h1;refine fon Tryz.func71 ?_;dsimp only[Tryz.f71];push_cast;refine cl h1 ?_;push_cast;refine cl h2 ?_;push_cast;exact ⟨[],rfl,rfl,by push_cast [ze,zd,CLe,zh]<;>simp[Qb,hn]⟩
 by_cases hp:ja w = []
 ·rw[hp]at h2;refine fon Tryz.func71 ?_;dsimp only[Tryz.f71];push_cast;refine cl h1 ?_;push_cast;refine cl h2 ?_;push_cast [hn];exact ⟨[],rfl,rfl,by push_cast [ze,zd,CLe,zh]<;>simp[Qb,hn,hp]⟩
 obtain ⟨hws,hpl⟩:(∀ x∈ZH 32 (ja w),x≠[]/\x.length<=100)/\(ja w).length<=100:=(yA w).resolve_left hp;have hpw:=hp;have hsay:=zlg w (quoteL a) (quoteL b) (vS e);have hsl:=vz 32 (ja w);have hsum:=x0 (fun x=>ZN x (quoteL a) (quoteL b) (vS e)) 25100 (ZH 32 (ja w)) fun x hx=>by
  have:=zif x a b e ha hb;have:=(hws x hx).2;omega
 have hjl:=zbY ((ZH 32 (ja w)).map fun x=>ZN x (quoteL a) (quoteL b) (vS e)) [32] 3000000 (by decide) (by
  have:(ZH 32 (ja w)).length*(25100+1)<=101*25101:=WT _ (by omega);omega)
 have hit:=xS 32 (ja w) (by omega);generalize ja w=P at h2 hp hws hpl hsay hsl hsum hjl hit;rw[hsay]at hjl;refine fof (fun i=>if i=7 then [false,false,false,false,false,false,false,true,true] else []) Tryz.func71 ?_;dsimp only[Tryz.f71];push_cast;refine cl h1 ?_;push_cast;refine cl h2 ?_;push_cast [hn,hp];refine VS [] [] ((N0 32 P).glob0) rfl (by simp) (by simp) (fun i hi=>by cases hi) (by push_cast) rfl ?_;push_cast;refine range (zV (ZH 32 P)) (fun _=>false) 4 (fun j=>⟨[],[[.str a],[.str b],[.sc (.int .i64 e)],[.own 0 9 1 (zV (((ZH 32 P).take j).map fun x=>ZN x (quoteL a) (quoteL b) (vS e)))]],1,0⟩) hit.glob0 (by push_cast) (by push_cast) (by push_cast) (Wb _) (by push_cast) (fun it h=>?_) (fun j _=>rfl) ?_ (fun j it hj hsf=>?_) (fun hsf=>?_)
 ·obtain ⟨x,_,rfl⟩:=WV.1 h;rfl
 ·exact wks [.inr (9,1)]
 ·obtain ⟨x,hx,rfl⟩:=Q8 hj;have hjl2:j<(ZH 32 P).length:=(Wd.1 hx).1;have hxw:=hws x (Wg hx);have hs1:=zj3 x a b e hxw.1 (by omega) ha hb;push_cast;refine cl hs1 ?_;push_cast
  repeat refine an ?_
  refine JY.mk [.inl 0] rfl rfl (Wc _) rfl (by push_cast [ze,zd,CLe,zh]) ?_;push_cast [ze,zd,CLe,zh];rw[WQ,hx];simp
 ·have htk:(ZH 32 P).take (ZH 32 P).length=ZH 32 P:=Oi;have j1:=((No ((ZH 32 P).map fun x=>ZN x (quoteL a) (quoteL b) (vS e)) [32] (by rw[We];omega) (by rw[hsay];omega)).res (Wu C.str hsay)).glob0 (G':=G2);have j2:=((zke [jC k,zsy w (quoteL a) (quoteL b) (vS e)] (by simp) (by rw[Jq,Lib.join_one];simp only[Wn,Wh,WG];omega)).res (Wu C.str (show _=Qb k w a b e by rw[Jq,Lib.join_one,Qb,if_neg hn,if_neg hpw]))).glob0 (G':=G2);push_cast [htk];refine cl j1 ?_;push_cast;refine cl j2 ?_;push_cast;exact dn
end
section
open CA CB
open Go.RowKit QuotePlain
end
section
open CA CB
open Go.RowKit
def GD:zu:=fun g=>if g=3 then G1 g else G2 g
theorem zus (g:Nat) (cs:List C) (h:G1 g=some cs):GD g=some cs:=by
 unfold GD;by_cases hg:g=3
 ·rw[if_pos hg];exact h
 ·unfold G1 at h;rw[if_neg hg]at h;cases h
theorem zuC (g:Nat) (cs:List C) (h:G2 g=some cs):GD g=some cs:=by
 unfold GD;by_cases hg:g=3
 ·subst hg;have q:G2 3=none:=rfl;rw[q]at h;cases h
 ·rw[if_neg hg];exact h
theorem Fun.gd1 {f:FuncId} {r:C} {n:Nat} (h:Fun Tryz.prog G1 f args r n):Fun Tryz.prog GD f args r n:=h.glob zus
theorem Fun.gd2 {f:FuncId} {r:C} {n:Nat} (h:Fun Tryz.prog G2 f args r n):Fun Tryz.prog GD f args r n:=h.glob zuC
abbrev zub (d:zX) (ops diags:C):C:=.agg [.sc (.int .i64 d.w.fs.maxI),.sc (.int .i64 d.w.fs.maxB),.sc (.int .i64 d.w.fs.next),.sl 6 (zr d.w.fs.xs),.sl 4 (zI d.w.kept),.sl 6 (zr d.w.pool),ops,diags,.sc (.int .i64 d.status),.sc (.int .i64 d.slot)]
structure zaB (d:zX):Prop where
 wi:Zm d.w
 ws:v6 d.w
 ops:d.ops.length<=80000
 diags:d.diags.length<=80000
 slot:0<=d.slot/\d.slot<=4000000000000000000
theorem G5 (o:OpV):opL o = [.sc (.int .i64 o.kind),.sc (.int .i64 o.slot),.str o.a,.str o.b,.str o.d]:=rfl
abbrev M7:List C:=[.any,.any,.any,.any,.any,.any,.any,.any,.any,.any]
def YJ (d:zX) (x:Lz):zX:={ d with diags:=d.diags++[x],status:=1 }
theorem zoo (d:zX) (hd:d.diags.length<=80000) (k w:Int) (a b:Lz) (e:Int) (ha:a.length<=3000) (hb:b.length<=3000) :
  YX Tryz.prog GD 40 [GJ d,.sc (.int .i64 k),.sc (.int .i64 w),.str a,.str b,.sc (.int .i64 e)] [] 0 (fun r bx n=>n=0/\∃ c B,zpT 1 c (zV (YJ d (Qb k w a b e)).diags) B/\r=zub (YJ d (Qb k w a b e)) (.sl 5 (d.ops.map opL)) (.bs 2 0 1 (d.diags.length+1) c)/\bx = [M7,M7,B]):=by
 have ht:=(zja k w a b e ha hb).gd2;generalize Qb k w a b e=x at ht ⊢;have hsl:(zV d.diags).length=d.diags.length:=We ..;have hc:=yw (G:=GD) (zV d.diags) [[.str x]] (fun r hr=>by obtain ⟨x,_,rfl⟩:=WV.1 hr;rfl) (fun r hr=>by rw[W0.1 hr];rfl) (fun r hr=>by obtain ⟨x,_,rfl⟩:=WV.1 hr;rfl) (fun r hr=>by rw[W0.1 hr];rfl) (by omega) (by simp) (by simp);refine foX (fun i=>if i=1 then [false,false,false,false,false,false,false,false,false,false,false,true,false,false,true] else []) Tryz.func40 ?_;dsimp only[Tryz.f40];push_cast;refine cl ht ?_;push_cast;refine jI [] [] hc rfl (by decide) (by decide) (by simp) (by push_cast) (by push_cast) (fun r bx' m hp=>?_);obtain ⟨rfl,c,B,hB,rfl,rfl⟩:=hp;have hre:∀ fp fo,C.reL fp fo B=B:=fun fp fo=>zF hB.stay;push_cast [hre];have hm:zV (YJ d x).diags=zV d.diags++[[.str x]]:=WS;exact ⟨_,[M7,M7,B],0,⟨⟨rfl,c,B,by rw[hm];exact hB,rfl,rfl⟩,Wb _⟩,[],rfl,rfl,by (push_cast [ze,zd,CLe,zh];exact z6 hB.stay),by push_cast [ze,zd,CLe,zh,YJ,Wn,hsl]⟩
theorem zes (d:zX) (hd:d.diags.length<=80000) (k w:Int) (a b:Lz) (e:Int) (ha:a.length<=3000) (hb:b.length<=3000) :
  Fun Tryz.prog GD 40 [GJ d,.sc (.int .i64 k),.sc (.int .i64 w),.str a,.str b,.sc (.int .i64 e)] (zub (YJ d (Qb k w a b e)) (.sl 5 (d.ops.map opL)) (.own 0 9 1 (zV (YJ d (Qb k w a b e)).diags))) 1:=
 (zoo d hd k w a b e ha hb).fun (by
  rintro r bx m ⟨rfl,c,B,hB,rfl,rfl⟩;exact ⟨[(2,9,1,zV (YJ d (Qb k w a b e)).diags,c)],[.inl 0],hB.ok rfl (by simp[YJ]) (fun r hr=>by obtain ⟨x,_,rfl⟩:=WV.1 hr;rfl),rfl,rfl,by push_cast [ze,zd,CLe,zh,We,Wn,YJ]⟩)
end
section
open CA CB
open Go.RowKit
theorem zrf (n m:Int):zpC n m=1↔m<n:=by
 unfold zpC;split
 ·omega
 ·split<;>omega
theorem MP (w:Int):∀ (l:List Int) (n:Int),zay w (l++[n])=(zay w l&&(match l.getLast? with | none=>true | some m=>decide (zpC n m=w)))
 | [],n=>by simp[zay]
 | [a],n=>by simp[zay]
 | a :: b :: r,n=>by
  have ih:=MP w (b :: r) n;simp only[Of,zay]at ih ⊢;rw[ih,List.getLast?_cons_cons,BY]
theorem kV (w:Int):∀ (l r:List Int),zay w (l++r)=true->zay w l=true
 | [],r,_=>rfl
 | [a],r,_=>rfl
 | a :: b :: l,r,h=>by
  simp only[Of,zay,Wp]at h ⊢;exact ⟨h.1,kV w (b :: l) r h.2⟩
theorem Nn (a b:List OpV):Ja (a++b)=Ja a++Ja b:=by simp[Ja]
theorem zlB {f:OpV->Bool} {l:List OpV} (k:Nat) (h:l.any f=false):(l.take k).any f=false:=W5.2 fun x hx=>W5.1 h x (Wx hx)
theorem zca {l:List OpV} (k:Nat) (h:Qj l=true):Qj (l.take k)=true:=by
 simp only[Qj,Wp,OQ]at h ⊢;refine ⟨zlB k h.1,kV 1 _ (Ja (l.drop k)) ?_⟩;rw[←Nn,Od];exact h.2
theorem zjG {o:OpV} (h:Y6 o=true) (hs:qR o.kind=true):1<=o.slot/\o.slot<=1073741824:=by
 simp only[Y6,hs,Wp,if_true,WW]at h;exact h.1.1.1.2
theorem za6 (f:OpV->Bool) (l:List OpV) (k:Nat) (h:k<l.length):(l.take (k+1)).any f=((l.take k).any f||f (l[k]'h)):=by
 rw[WQ,Wa h,By];simp
theorem zfS {l:List Int} {d:Int} (h:l.getLast?=none):l.getLastD d=d:=by rw[Bm,h];rfl
theorem ziA {l:List Int} {d m:Int} (h:l.getLast?=some m):l.getLastD d=m:=by rw[Bm,h];rfl
theorem zd1 (l:List OpV) (k:Nat) (h:k<l.length) (hp:Qj (l.take k)=true) (hb:QM (l[k]'h)=false):Qj (l.take (k+1))=(!qR (l[k]'h).kind||decide ((Ja (l.take k)).getLastD 0<(l[k]'h).slot)):=by
 simp only[Qj,Wp,OQ]at hp ⊢;rw[za6 _ l k h,hp.1,hb,Hp l k h];cases hs:qR (l[k]'h).kind with
 | false=>simp[hp.2]
 | true =>
  have hm:Y6 (l[k]'h)=true:=by simp only[QM,AO,Bool.not_eq_false']at hb;exact hb.1
  have:=zjG hm hs;rw[if_pos rfl,MP,hp.2];cases hl:(Ja (l.take k)).getLast? with
  | none=>rw[zfS hl];simp;omega
  | some m=>rw[ziA hl];simp[zrf]
theorem ze4 (l:List Int) (n d:Int):(l++[n]).getLastD d=n:=by simp
theorem zgL:Qj []=true:=rfl
theorem zh5 (l:List OpV) (hx:l.length<=100000) (hl:zrG l):Fun Tryz.prog G0 18 [.sl 5 (zd7 l)] (qJ (Qj l)) 0:=by
 refine fon Tryz.func18 ?_;dsimp only[Tryz.f18];push_cast;refine loop (fun k:Nat=>⟨[(0,.sl 5 (zd7 l)),(3,.sc (.int .i64 ((Ja (l.take k)).getLastD 0))),(4,.sc (.int .i64 k))],[],0,0⟩) (fun k=>k<=l.length/\Qj (l.take k)=true) (fun k=>l.length-k) 0 ⟨Wb _,zgL⟩ ?_ ?_
 ·exact JY.mk [] rfl rfl (Wb _) rfl (by push_cast [ze,zd,CLe,zh]<;>rfl) (by push_cast [ze,zd,CLe,zh])
 ·intro k hk;have hk1:=hk.1;have hk2:=hk.2;by_cases h:k<l.length
  ·have hg:=uy l k h;have hsh:=hl _ (Ww h);have hstep:=zd1 l k h hk2;have hst:=Hp l k h;have hfail:Qj (l.take (k+1))=false->Qj l=false:=fun e=>by
    cases hq:Qj l with
    | false=>rfl
    | true=>rw[zca (k+1) hq]at e;cases e
   have hbadf:QM (l[k]'h)=true->Qj l=false:=fun e=>hfail (by simp[Qj,za6,h,e]);cases ho:l[k]'h with
   | mk kd s a b d =>
    rw[ho]at hg hsh hstep hst hbadf;simp only[opL]at hg;simp only at hst hstep;have h1:=U0 kd s a b d hsh;have h2:=ki kd;simp only[opL]at h1;cases hm:Y6 ⟨kd,s,a,b,d⟩ with
    | false =>
     have hp:=hbadf (by simp[QM,hm]);rw[hm]at h1;push_cast [h,hg];refine ⟨by omega,?_⟩;refine cl h1 ?_;push_cast;exact ⟨[],rfl,rfl,by push_cast [ze,zd,CLe,zh];simp[hp]⟩
    | true =>
     rw[hm]at h1;by_cases h7:7<kd
     ·have hp:=hbadf (by simp[QM,hm,h7]);push_cast [h,hg];refine ⟨by omega,?_⟩;refine cl h1 ?_;push_cast [hg,h7]
      repeat refine an ?_
      exact ⟨[],rfl,rfl,by push_cast [ze,zd,CLe,zh];simp[hp]⟩
     ·have hstep:=hstep (by simp[QM,hm,h7]);cases hs:qR kd with
      | false =>
       rw[hs]at h2 hstep hst;rw[if_neg (by simp)]at hst;push_cast [h,hg];refine ⟨by omega,?_⟩;refine cl h1 ?_;push_cast [hg,h7]
       repeat refine an ?_
       refine cl h2 ?_;push_cast
       repeat refine an ?_
       refine ⟨k+1,⟨by omega,by simpa using hstep⟩,by omega,wk (by push_cast [ze,zd,CLe,zh,hst])⟩
      | true =>
       rw[hs]at h2 hstep hst;rw[if_pos rfl]at hst;by_cases hlt:s<=(Ja (l.take k)).getLastD 0
       ·have hp:=hfail (by rw[hstep,Wj (by omega)];rfl);push_cast [h,hg];refine ⟨by omega,?_⟩;refine cl h1 ?_;push_cast [hg,h7]
        repeat refine an ?_
        refine cl h2 ?_;push_cast [hg,hlt]
        repeat refine an ?_
        exact ⟨[],rfl,rfl,by push_cast [ze,zd,CLe,zh];simp[hp]⟩
       ·have hn:Qj (l.take (k+1))=true:=by rw[hstep,Wm (by omega)];rfl
        have hlast:=ze4 (Ja (l.take k)) s 0;push_cast [h,hg];refine ⟨by omega,?_⟩;refine cl h1 ?_;push_cast [hg,h7]
        repeat refine an ?_
        refine cl h2 ?_;push_cast [hg,hlt]
        repeat refine an ?_
        refine ⟨k+1,⟨by omega,hn⟩,by omega,wk (by push_cast [ze,zd,CLe,zh,hst,hlast])⟩
  ·obtain rfl:k=l.length:=by omega
   rw[Oi]at hk2;push_cast [h];exact ⟨[],rfl,rfl,by push_cast [ze,zd,CLe,zh];simp[hk2]⟩
end
section
open Go.RowKit
theorem MT (a b:List OpV) (ha:a.length<=100000):Fun Tryz.prog G0 32 [.sl 5 (zd7 a),.sl 5 (zd7 b)] (qJ (Yf a b)) 0:=by
 by_cases hl:a.length=b.length
 ·refine fon Tryz.func32 ?_;dsimp only[Tryz.f32];push_cast [hl];refine loop (fun k:Nat=>⟨[(0,.sl 5 (zd7 a)),(1,.sl 5 (zd7 b)),(5,.sc (.int .i64 k))],[],0,0⟩) (fun k=>k<=a.length/\∀ (j:Nat) (h:j<a.length) (h':j<b.length),j<k->znJ (a[j]'h) (b[j]'h')=true) (fun k=>a.length-k) 0 ⟨Wb _,fun j _ _ hj=>by omega⟩ ?_ ?_
  ·exact wk (by push_cast [ze,zd,CLe,zh,hl])
  ·intro k hk;have hk1:=hk.1;have hk2:=hk.2;by_cases h:k<a.length
   ·have hga:=uy a k h;have hgb:=uy b k (by omega);have heq:znJ (a[k]'h) (b[k]'(by omega))=znJ (a[k]'h) (b[k]'(by omega)):=rfl;simp only[opL]at hga hgb
    conv at heq=>lhs;unfold znJ
    cases he:znJ (a[k]'h) (b[k]'(by omega)) with
    | true =>
     rw[he]at heq;push_cast [h,hga,hgb,heq]
     repeat refine an ?_
     refine ⟨k+1,⟨by omega,fun j hj hj' hjk=>?_⟩,by omega,wk⟩;rcases Wr j k with g | g
     ·exact hk2 j hj hj' g
     ·have:j=k:=by omega
      subst this;exact he
    | false =>
     rw[he]at heq;push_cast [h,hga,hgb,heq]
     repeat refine an ?_
     refine ⟨[],rfl,rfl,?_⟩;push_cast [ze,zd,CLe,zh];have:¬Yf a b=true:=fun e=>by
      have:=((XT a b).1 e).2 k h (by omega);rw[he]at this;cases this
     simp[this]
   ·push_cast [h];refine ⟨[],rfl,rfl,?_⟩;push_cast [ze,zd,CLe,zh];have:Yf a b=true:=(XT a b).2 ⟨hl,fun j hj hj'=>hk2 j hj hj' (by omega)⟩;simp[this]
 ·refine fon Tryz.func32 ?_;dsimp only[Tryz.f32];push_cast [hl];refine ⟨[],rfl,rfl,?_⟩;push_cast [ze,zd,CLe,zh];have:¬Yf a b=true:=fun e=>hl ((XT a b).1 e).1;simp[this]
end
section
open CA CB
open Go.RowKit
theorem zm2 (a b:zL):(decide (a.slot=b.slot)&&decide (a.ino=b.ino)&&a.content==b.content&&decide (a.data=b.data))=decide (a=b):=by
 obtain ⟨a1,a2,a3,a4⟩:=a;obtain ⟨b1,b2,b3,b4⟩:=b;rw[BQ];simp[and_assoc]
theorem zg4 (x y:qj) (hx:x.fs.xs.length<=100000) (hp:x.pool.length<=100000) (hk:x.kept.length<=100000) (he:∀ z∈x.fs.xs,z.es.length<=9223372036854775807) (hep:∀ z∈x.pool,z.es.length<=9223372036854775807):Fun Tryz.prog G0 19 [jP x,jP y] (qJ (decide (x=y))) 0:=by
 obtain ⟨f,a,p⟩:=x;obtain ⟨g,b,q⟩:=y;have hk:a.length<=100000:=hk;have hla:(zI a).length=a.length:=We ..;have hlb:(zI b).length=b.length:=We ..;have h1:=zeZ (G:=G0) f g hx he;have h2:=NC (G:=G0) p q hp hep;have hw:(⟨f,a,p⟩:qj)=⟨g,b,q⟩↔f=g/\p=q/\a=b:=by simp only[qj.mk.injEq];exact ⟨fun h=>⟨h.1,h.2.2,h.2.1⟩,fun h=>⟨h.1,h.2.2,h.2.1⟩⟩
 by_cases c1:f=g
 case neg =>
  have hn:¬(⟨f,a,p⟩:qj)=⟨g,b,q⟩:=fun h=>c1 (hw.1 h).1;rw[Wj c1]at h1;refine fon Tryz.func19 ?_;dsimp only[Tryz.f19];push_cast;refine cl h1 ?_;push_cast;exact dn (by push_cast [ze,zd,CLe,zh,hn])
 rw[Wm c1]at h1;by_cases c2:p=q
 case neg =>
  have hn:¬(⟨f,a,p⟩:qj)=⟨g,b,q⟩:=fun h=>c2 (hw.1 h).2.1;rw[Wj c2]at h2;refine fon Tryz.func19 ?_;dsimp only[Tryz.f19];push_cast;refine cl h1 ?_;push_cast;refine cl h2 ?_;push_cast;exact dn (by push_cast [ze,zd,CLe,zh,hn])
 rw[Wm c2]at h2;by_cases c3:a.length=b.length
 case neg =>
  have hn:¬(⟨f,a,p⟩:qj)=⟨g,b,q⟩:=fun h=>c3 (by rw[(hw.1 h).2.2]);have c3':((a.length:Int)=b.length)=False:=Wy (by omega);refine fon Tryz.func19 ?_;dsimp only[Tryz.f19];push_cast;refine cl h1 ?_;push_cast;refine cl h2 ?_;push_cast [hla,hlb,c3'];exact dn (by push_cast [ze,zd,CLe,zh,hn])
 have c3':((a.length:Int)=b.length)=True:=eq_true (by omega);refine fon Tryz.func19 ?_;dsimp only[Tryz.f19];push_cast;refine cl h1 ?_;push_cast;refine cl h2 ?_;push_cast [hla,hlb,c3'];refine loop (fun i:Nat=>⟨[(2,.ptr 0 0),(3,.ptr 1 0),(5,.sc (.int .i64 i))],[Uc ⟨f,a,p⟩,Uc ⟨g,b,q⟩],0,0⟩) (fun i=>i<=a.length/\a.take i=b.take i) (fun i=>a.length-i) 0 ⟨Wb _,rfl⟩ ?_ ?_
 ·exact wk
 rintro i ⟨i1,i2⟩;by_cases h:i<a.length
 ·have hb:i<b.length:=by omega
  have g1:=jz a i h;have g2:=jz b i hb;have hd:=zm2 a[i] b[i];by_cases hab:a[i]=b[i]
  ·rw[Wm hab]at hd;push_cast [hla,hlb,h,hb,g1,g2,hd]
   repeat refine an ?_
   repeat refine an ?_
   exact ⟨i+1,⟨h,(QF (by omega) hb i2).2 hab⟩,by omega,wk⟩
  ·rw[Wj hab]at hd;have hn:¬(⟨f,a,p⟩:qj)=⟨g,b,q⟩:=fun h=>hab (by have:=(hw.1 h).2.2;subst this;rfl);push_cast [hla,hlb,h,hb,g1,g2,hd]
   repeat refine an ?_
   exact dn (by push_cast [ze,zd,CLe,zh,hn])
 ·have hab:a=b:=by rw[←Wf (l:=a) (i:=i) (by omega),i2,Wf (by omega)]
  have hn:=hw.2 ⟨c1,c2,hab⟩;push_cast [hla,h];exact dn (by push_cast [ze,zd,CLe,zh,hn])
theorem yy (w:qj) (hk:w.kept.length<=100000) (hs:Qf w.kept):Fun Tryz.prog G0 13 [jP w] (GJ (Gf w)) 0:=by
 have h:=kL (G:=G0) w hk hs.1 hs.2;refine fof (fun i=>if i=1 then [false,false,false,false,true] else []) Tryz.func13 ?_;dsimp only[Tryz.f13];push_cast;refine cl h ?_;push_cast;exact dn (by push_cast [ze,zd,CLe,zh,Gf])
end
section
open CA CB
open Go.RowKit
structure zvc where
 path:Lz
 ino:Int
deriving DecidableEq,Inhabited
def kC (p n:Lz):Lz:=if p = [47] then p++n else p++[47]++n
theorem zhc (p n:Lz):(kC p n).length<=p.length+1+n.length:=by
 unfold kC;split<;>simp<;>omega
section
variable {G:zu}
end
end
section
open CA CB
open Go.RowKit
def zpy (xs:List zn):Prop:=xs.length<=3240/\∀ x∈xs,x.data.length<=5000/\x.es.length<=3240/\∀ e∈x.es,e.name.length<=300
abbrev Ya:=List (List Lz×zn)
structure zbI (f:FsV) (tr:Int->List Lz->Ya):Prop where
 has:∀ n ns,zl n f.xs=true->tr n ns=(ns,zf n f.xs) :: (zf n f.xs).es.flatMap fun e=>tr e.ino (ns++[e.name])
 not:∀ n ns,zl n f.xs=false->tr n ns = []
abbrev kG (p:List Lz×zn):List C:=[.str (qC p.1),.agg (JS p.2)]
def zd3 (tr:Int->List Lz->Ya) (ns:List Lz) (es:List zN):Ya:=es.flatMap fun e=>tr e.ino (ns++[e.name])
def Qh (tr:Int->List Lz->Ya) (S:List (List Lz×List zN)):Ya:=S.flatMap fun p=>zd3 tr p.1 p.2
abbrev lvC (p:List Lz×List zN):List C:=[.sl 1 (zV p.1),.sl 2 (zJ p.2)]
def HY (S:List (List Lz×List zN)):List C:=(S.reverse.map lvC).flatten
theorem zpm (S:List (List Lz×List zN)):(HY S).length=S.length*2:=by
 unfold HY;rw[qA (k:=2) fun r hr=>by obtain ⟨p,_,rfl⟩:=WV.1 hr;rfl];simp
theorem zbx (p:List Lz×List zN) (S:List (List Lz×List zN)):HY (p :: S)=HY S++lvC p:=by
 unfold HY;simp
def VW (p:List Lz×zn):Prop:=p.1.length<=1000000/\(Lib.join p.1 [47]).length<=1000000
structure Y8 (f:FsV) (tr:Int->List Lz->Ya) (IT:List (List C)) (sf:Nat->Bool) (S:List (List Lz×List zN)) (k cap:Nat):Prop where
 rest:IT.drop k=(Qh tr S).map kG
 bound:∀ p∈Qh tr S,VW p
 le:k<=IT.length
 go:∀ j,j<k->sf j=false
 pos:S.length<=k
 room:S.length<=cap
 roomM:cap<=9223372036854775807
 has:∀ p∈S,p.2.length<=3240/\∀ e∈p.2,zl e.ino f.xs=true
theorem ZL (S:List (List Lz×List zN)):((HY S).all C.stayB)=true:=Za fun r hr=>by
 obtain ⟨p,_,rfl⟩:=WV.1 hr;rfl
theorem Y8.pop {tr:Int->List Lz->Ya} {IT:List (List C)} {sf:Nat->Bool} {S:List (List Lz×List zN)} {cap:Nat} (h:Y8 f tr IT sf ((ns,[]) :: S) k cap):Y8 f tr IT sf S k cap:=by
 have e:Qh tr ((ns,[]) :: S)=Qh tr S:=by simp[Qh,zd3]
 exact ⟨by rw[←e];exact h.rest,fun p hp=>h.bound p (by rw[e];exact hp),h.le,h.go,by have:=h.pos;rw[Wh]at this;omega,by have:=h.room;rw[Wh]at this;omega,h.roomM,fun p hp=>h.has p (Wl _ hp)⟩
theorem Y8.next {tr:Int->List Lz->Ya} {IT:List (List C)} {sf:Nat->Bool} {S:List (List Lz×List zN)} {e:zN} {r:List zN} {cap:Nat} (h:Y8 f tr IT sf ((ns,e :: r) :: S) k cap) (ht:zbI f tr) (hf:zpy f.xs) (h3:YW f) :
  ∃ y,y=zf e.ino f.xs/\y∈f.xs/\IT[k]?=some (kG (ns++[e.name],y))/\VW (ns++[e.name],y)/\(sf k=false->(∀ c,S.length+2<=c->c<=9223372036854775807->Y8 f tr IT sf ((ns++[e.name],y.es) :: (ns,r) :: S) (k+1) c)/\(y.es = []->Y8 f tr IT sf ((ns,r) :: S) (k+1) cap)):=by
 have hh:zl e.ino f.xs=true:=(h.has (ns,e :: r) Wk).2 e Wk;obtain ⟨hm,hi⟩:=jD hh;have hu:=ht.has e.ino (ns++[e.name]) hh;have hrest:Qh tr ((ns,e :: r) :: S)=(ns++[e.name],zf e.ino f.xs) :: Qh tr ((ns++[e.name],(zf e.ino f.xs).es) :: (ns,r) :: S):=by
  simp only[Qh,zd3,Ap,hu,Of,WH]
 refine ⟨_,rfl,hm,?_,h.bound _ (by rw[hrest];exact Wk),fun hs=>?_⟩
 ·have:=h.rest;rw[hrest]at this;have:=Wu (·[0]?) this;simpa using this
 ·have hd:IT.drop (k+1)=(Qh tr ((ns++[e.name],(zf e.ino f.xs).es) :: (ns,r) :: S)).map kG:=by
   rw[←Ay,h.rest,hrest];rfl
  have hb:∀ p∈Qh tr ((ns++[e.name],(zf e.ino f.xs).es) :: (ns,r) :: S),VW p:=fun p hp=>h.bound p (by rw[hrest];exact Wl _ hp);have hkl:k+1<=IT.length:=by
   rcases Wr k IT.length with g | g
   ·exact g
   ·have:=h.rest;rw[Bc g,hrest]at this;cases this
  have hgo:∀ j,j<k+1->sf j=false:=fun j hj=>by
   rcases Wr j k with g | g
   ·exact h.go j g
   ·rw[show j=k by omega];exact hs
  have hp:=h.pos;have hro:=h.room;have hrm:=h.roomM;rw[Wh]at hp hro;have h0:=h.has (ns,e :: r) Wk;have hr0:r.length<=3240/\∀ e'∈r,zl e'.ino f.xs=true:=⟨by have:=h0.1;simp at this;omega,fun e' he=>h0.2 e' (Wl _ he)⟩;refine ⟨fun c h1 h2=>⟨hd,hb,hkl,hgo,by simp;omega,by simp;omega,h2,fun p hp=>?_⟩,fun hne=>?_⟩
  ·rcases WF.1 hp with rfl | hp
   ·exact ⟨(hf.2 _ hm).2.1,fun e' he=>h3 _ hm e' he⟩
   ·rcases WF.1 hp with rfl | hp
    ·exact hr0
    ·exact h.has p (Wl _ hp)
  ·have hz:Qh tr ((ns++[e.name],(zf e.ino f.xs).es) :: (ns,r) :: S)=Qh tr ((ns,r) :: S):=by rw[hne];simp[Qh,zd3]
   rw[hz]at hd hb;exact ⟨hd,hb,hkl,hgo,by simp;omega,by simp;omega,hrm,fun p hp=>by
    rcases WF.1 hp with rfl | hp
    ·exact hr0
    ·exact h.has p (Wl _ hp)⟩
theorem zcJ (f:FsV) (ino:Int) (ns:List Lz) (tr:Int->List Lz->Ya) (ht:zbI f tr) (hf:zpy f.xs) (hR:zW f.xs) (h3:YW f) (h2:∀ x∈f.xs,x.kind≠2->x.es = []) (hl:(tr ino ns).length<=100000000) (hb:∀ p∈tr ino ns,VW p) :
  yR Tryz.prog G0 226 [] [.row (fsC f),.row [.sc (.int .i64 ino)],.row [.sl 1 (zV ns)]] [] ((tr ino ns).map kG):=by
 have h40:=hf.1;refine foI (fun i=>if i=1000000+278 then [true] else if i=1 then [false,false,false,false,false,false,false,true] else if i=10 then [false,false,false,false,true] else []) Tryz.func226 ?_;dsimp only[Tryz.f226];intro l sf;push_cast;refine cl (jn f ino (by omega) hR) ?_;push_cast;cases hh:zl ino f.xs with
 | false =>
  have hn:=ht.not ino ns hh;push_cast;rw[hn];exact .inl ⟨rfl,fun j hj=>absurd hj (Oo _)⟩
 | true =>
  have hn:=ht.has ino ns hh;have q:VW (ns,zf ino f.xs):=hb _ (by rw[hn];exact Wk);have h0:((tr ino ns).map kG)[0]?=some (kG (ns,zf ino f.xs)):=by rw[hn];rfl
  obtain ⟨hm,hino⟩:=jD hh;generalize zf ino f.xs=x at hn h0 hm hino;have hITl:((tr ino ns).map kG).length<=100000000:=by rw[We];exact hl
  generalize hIT:(tr ino ns).map kG=IT at h0 hITl;push_cast;refine cl (Qr ns (by have:=q.1;dsimp only at this;omega) (by have:=q.2;dsimp only at this;omega)) ?_;push_cast [h0];refine ⟨by push_cast [ze,zd,CLe,zh],fun j hj=>absurd hj (Oo _),br (fun hs=>?_) (fun hs=>?_)⟩
  ·push_cast;exact .inr ⟨A3 _,hs⟩
  ·push_cast;refine loop (fun p:List (List Lz×List zN)×Nat×Nat=>⟨[(0,.sc (.func (.yield l) #[] #[])),(1,.row (fsC f)),(7,.bs 1 0 2 p.1.length p.2.2)],[[.any,.any,.any,.any,.any,.any],HY p.1++List.replicate ((p.2.2-p.1.length)*2) .any],0,p.2.1⟩) (fun p=>Y8 f tr IT sf p.1 p.2.1 p.2.2) (fun p=>2*(IT.length-p.2.1)+p.1.length) ([(ns,x.es)],1,1) ?_ ?_ ?_
   ·have hdr:IT.drop 1=(Qh tr [(ns,x.es)]).map kG:=by
     rw[←hIT,hn];simp[Qh,zd3]
    show Y8 f tr IT sf [(ns,x.es)] 1 1;exact ⟨hdr,fun p hp=>hb p (by rw[hn];exact Wl _ (by simpa [Qh,zd3] using hp)),by have:=(Wd.1 h0).1;omega,fun j hj=>by rw[show j=0 by omega];exact hs,Wc _,Wc _,by omega,fun p hp=>by
     rw[W0]at hp;subst hp;exact ⟨(hf.2 x hm).2.1,fun e he=>h3 x hm e he⟩⟩
   ·have hl1:HY [(ns,x.es)] = [.sl 1 (zV ns),.sl 2 (zJ x.es)]:=rfl;exact wk (h5:=by push_cast [ze,zd,CLe,zh,hl1])
   ·rintro ⟨S,k,cap⟩ hS;dsimp only at hS ⊢;cases S with
    | nil =>
     push_cast;have hr:=hS.rest;have he:IT.length<=k:=by
      rcases Wr k IT.length with g | g
      ·have:=Wu List.length hr;simp[Qh]at this;omega
      ·exact g
     exact .inl ⟨by have:=hS.le;omega,hS.go⟩
    | cons p S' =>
     obtain ⟨ns1,es1⟩:=p;have hL:=zpm S';have hd0:∀ X,(HY S'++X).drop (S'.length*2)=X:=fun X=>List.drop_left' hL;have hd1:∀ X,(HY S'++X).drop (S'.length*2+1)=X.drop 1:=fun X=>by rw[←Ay,hd0]
     have hd2:∀ X,(HY S'++X).drop (S'.length*2+2)=X.drop 2:=fun X=>by rw[←Ay,hd0]
     have ht0:∀ X,(HY S'++X).take (S'.length*2)=HY S':=fun X=>OK hL;have ht1:∀ X,(HY S'++X).take (S'.length*2+1)=HY S'++X.take 1:=fun X=>by
      rw[AJ,Wf (by omega),hL];congr 2;omega
     have hpos:((0:Int)<(S'.length:Int)+1)=True:=eq_true (by omega);have hroom:=hS.room;have hroomM:=hS.roomM;rw[Wh]at hroom;have hlc:(((S'.length:Int)+1-1)=(S'.length:Int)):=by omega
     push_cast [zbx,hlc,hpos]
     repeat refine an ?_
     generalize hpad:List.replicate ((cap-(S'.length+1))*2) C.any=pad;have hps:(pad.all C.stayB)=true:=by rw[←hpad];simp[OL,C.stayB]
     have hst1:((HY S'++(lvC (ns1,es1)++pad)).all C.stayB)=true:=by rw[O2,ZL,O2,hps];rfl
     have hpl:pad.length=(cap-(S'.length+1))*2:=by rw[←hpad];simp
     refine loop (fun p:List zN×Nat=>⟨[(0,.sc (.func (.yield l) #[] #[])),(1,.row (fsC f)),(7,.bs 1 0 2 (S'.length+1) cap),(8,.ptr 1 (S'.length*2))],[[.any,.any,.any,.any,.any,.any],HY S'++([.sl 1 (zV ns1),.sl 2 (zJ p.1)]++pad)],0,p.2⟩) (fun p=>Y8 f tr IT sf ((ns1,p.1) :: S') p.2 cap/\2*(IT.length-p.2)<=2*(IT.length-k)) (fun p=>p.1.length) (es1,k) ⟨hS,Wc _⟩ ?_ ?_
     ·exact JY.mk [] rfl rfl (Wb _) rfl (by push_cast [ze,zd,CLe,zh]) (by push_cast [ze,zd,CLe,zh,WH];exact z6 hst1)
     ·rintro ⟨es,k1⟩ ⟨hT,hkk⟩;dsimp only at hT hkk ⊢;cases es with
      | nil =>
       push_cast [hd0,hd1,hd2,ht0,ht1,hlc];refine ⟨by omega,by omega,⟨by omega,by omega⟩,(S',k1,cap),hT.pop,by dsimp only;omega,JY.mk [] rfl rfl (Wb _) rfl (by push_cast [ze,zd,CLe,zh]) ?_⟩;push_cast [ze,zd,CLe,zh];exact zhU (z6 (ZL S')) (XV (by simp[hpl];omega))
      | cons e r =>
       obtain ⟨y,hy,hym,hk1,hbd,hnext⟩:=hT.next ht hf h3;have hrl:((0:Int)<(r.length:Int)+1)=True:=eq_true (by omega);have hlr:(zJ r).length=r.length:=We ..;have hhe:zl e.ino f.xs=true:=(hT.has (ns1,e :: r) Wk).2 e Wk;have hgy:zf e.ino f.xs=y:=hy.symm;have hb1:ns1.length+1<=1000000:=by have:=hbd.1;simpa using this
       have hb2:(Lib.join (ns1++[e.name]) [47]).length<=1000000:=hbd.2;have hst2:(zV ns1).length=ns1.length:=We ..;push_cast [hd0,hd1,hd2,ht0,ht1,hlc,hlr,hrl,hst2,WH,Oi]
       repeat refine an ?_
       refine cl (jn f e.ino (by omega) hR) ?_;push_cast [hgy,hhe];refine cl (Qr (ns1++[e.name]) (by simp;omega) (by omega)) ?_;push_cast [hk1];refine ⟨by push_cast [ze,zd,CLe,zh],hT.go,br (fun hs1=>?_) (fun hs1=>?_)⟩
       ·push_cast;exact .inr ⟨A3 _,hs1⟩
       ·obtain ⟨w1,w2⟩:=hnext hs1;by_cases k2:y.kind=2
        ·have hSk:=hT.pos;have hkl:=hT.le;rw[Wh]at hSk;have hc1:(HY S'++C.sl 1 (zV ns1) :: C.sl 2 (List.map Md r) :: pad).length=cap*2:=by
          rw[Wn,hL,Wh,Wh,hpl];omega
         have hc2:(HY S'++C.sl 1 (zV ns1) :: C.sl 2 (List.map Md r) :: pad).take ((S'.length+1)*2)=HY S'++[C.sl 1 (zV ns1),C.sl 2 (List.map Md r)]:=by
          rw[AJ,Wf (by omega),hL,show (S'.length+1)*2-S'.length*2=2 by omega];rfl
         push_cast [k2];refine ztW (HY S'++[C.sl 1 (zV ns1),C.sl 2 (List.map Md r)]++[C.sl 1 (zV (ns1++[e.name])),C.sl 2 (zJ y.es)]) rfl rfl (by decide) rfl (by decide) (Wb _) hc1 hroom hroomM (by omega) (by omega) (by rw[hc2];exact zF (by rw[O2,O2,ZL];rfl)) (fun c' g1 g2=>?_);have hw:=w1 c' (by omega) g2;have hwl:=hw.le;push_cast [k2];refine ⟨((ns1++[e.name],y.es) :: (ns1,r) :: S',k1+1,c'),hw,by simp only[Wh];omega,JY.mk [] rfl rfl (Wb _) rfl (by push_cast [ze,zd,CLe,zh]) ?_⟩;push_cast [ze,zd,CLe,zh,zbx,WH];exact z6 (by rw[O2,ZL];simp[OL,C.stayB])
        ·push_cast [k2];have hz:=w2 (h2 y hym k2);have hle:=hz.le;refine ⟨(r,k1+1),⟨hz,by dsimp only;omega⟩,by dsimp only;simp,JY.mk [] rfl rfl (Wb _) rfl (by push_cast [ze,zd,CLe,zh]) ?_⟩;push_cast [ze,zd,CLe,zh,WH];exact z6 (by rw[O2,ZL,A4,A4,hps];rfl)
end
section
open CA CB
open Go.RowKit
structure zfh (f:FsV) (tr:Int->List Lz->Ya):Prop where
 tree:zbI f tr
 few:zpy f.xs
 rise:zW f.xs
 third:YW f
 leaf:∀ x∈f.xs,x.kind≠2->x.es = []
structure u0 (tr:Int->List Lz->Ya) (ino:Int) (ns:List Lz):Prop where
 len:(tr ino ns).length<=100000000
 bound:∀ p∈tr ino ns,VW p
abbrev zei (l:Ya):List (List C):=l.map kG
theorem zkZ {l:Ya} {it:List C} (h:(zei l)[k]?=some it):∃ p,l[k]?=some p/\it=kG p:=by
 rw[WA]at h;cases hq:l[k]? with
 | none=>rw[hq]at h;cases h
 | some x=>rw[hq]at h;cases h;exact ⟨x,rfl,rfl⟩
theorem zok {tr:Int->List Lz->Ya} {ino:Int} (hw:zfh f tr) (hs:u0 tr ino ns):yR Tryz.prog G0 226 [] [.row (fsC f),.row [.sc (.int .i64 ino)],.row [.sl 1 (zV ns)]] [] (zei (tr ino ns)):=
 zcJ f ino ns tr hw.tree hw.few hw.rise hw.third hw.leaf hs.len hs.bound
theorem zkv (f:FsV) (ino:Int) (ns:List Lz):Fun Tryz.prog G0 183 [.agg (fsC f),.sc (.int .i64 ino),.sl 1 (zV ns)] (.clo (.func 226) [] [.row (fsC f),.row [.sc (.int .i64 ino)],.row [.sl 1 (zV ns)]]) 0:=by
 refine fon Tryz.func183 ?_;dsimp only[Tryz.f183];push_cast;exact dn
theorem znq (f:FsV):Fun Tryz.prog G0 149 [.agg (fsC f)] (.clo (.func 226) [] [.row (fsC f),.row [.sc (.int .i64 1)],.row [.sl 1 (zV [])]]) 0:=by
 refine fon Tryz.func149 ?_;dsimp only[Tryz.f149];push_cast;refine call (Fun.less (zkv f 1 []) (by push_cast [ze,zd,CLe,zh])) ?_;push_cast;exact dn
def Zv (n:Int) (l:Ya):List Lz:=(l.filter fun p=>decide (p.2.ino=n)).map fun p=>qC p.1
def kR (n:Int) (l:Ya):Option Lz:=(l.find? fun p=>decide (p.2.ino=n)&&decide (p.2.kind=2)).map fun p=>qC p.1
theorem vB (f:FsV) (n:Int) (tr:Int->List Lz->Ya) (hw:zfh f tr) (hs:u0 tr 1 []) :
  Fun Tryz.prog G0 102 [.agg (fsC f),.sc (.int .i64 n)] (.tup [.str ((kR n (tr 1 [])).getD []),.sc (.bool (kR n (tr 1 [])).isSome)]) 0:=by
 refine fon Tryz.func102 ?_;dsimp only[Tryz.f102];push_cast;refine cl (znq f) ?_;push_cast;have hl:=hs.len;have hit:=zok hw hs;generalize tr 1 []=l at hit hl;refine range (zei l) (fun k=>match l[k]? with | some p=>decide (p.2.ino=n)&&decide (p.2.kind=2) | none=>false) 4 (fun k=>⟨[],[[.any,.any,.any,.any],[.sc (.int .i64 n)],[.any],[.any]],0,0⟩) hit (by push_cast) (by push_cast) (by push_cast) (Wb _) (by push_cast) (fun it h=>?_) (fun k _=>rfl) ?_ (fun k it hk hsf=>?_) (fun hsf=>?_)
 ·obtain ⟨x,_,rfl⟩:=WV.1 h;rfl
 ·exact wk
 ·obtain ⟨x,hx2,rfl⟩:=zkZ hk;have hfirst:(decide (x.2.ino=n)&&decide (x.2.kind=2))=true->kR n l=some (qC x.1):=fun hb=>by
   obtain ⟨hkl,hxe⟩:=Wd.1 hx2;unfold kR;rw[A9 (b:=x) |>.2 ⟨hb,k,hkl,hxe,fun j hj=>?_⟩]
   ·rfl
   ·have:=hsf j hj;rw[Wa (by omega)]at this;simp only[this];rfl
  by_cases c1:x.2.ino=n
  ·by_cases c2:x.2.kind=2
   ·have hd:=hfirst (by simp[c1,c2]);push_cast [c1,c2];refine ⟨by rw[hx2];simp[c1,c2],⟨[],[[.any,.any,.any,.any],[.sc (.int .i64 n)],[.str (qC x.1)],[.sc (.bool true)]],0,0⟩,rfl,wk,?_⟩;push_cast [hd];exact dn (by push_cast [ze,zd,CLe,zh,hd,WZ,AZ])
   ·push_cast [c1,c2];refine ⟨by rw[hx2];simp[c2],wk⟩
  ·push_cast [c1];refine ⟨by rw[hx2];simp[c1],wk⟩
 ·have hnone:kR n l=none:=by
   unfold kR;rw[Option.map_eq_none_iff,Be];intro x hx;obtain ⟨k,hk,rfl⟩:=Wt hx;have:=hsf k (by simpa using hk);rw[Wa hk]at this;simpa only[Bool.not_eq_true] using this
  push_cast [hnone];exact dn (by push_cast [ze,zd,CLe,zh,Ot,Bz])
end
section
inductive Dep (xs:List zn):Nat->Int->Prop
 | root:Dep xs 0 1
 | step {k:Nat} {n:Int} {e:zN}:Dep xs k n->zl n xs=true->e∈(zf n xs).es->Dep xs (k+1) e.ino
def okM (f:FsV):Prop:=zpy f.xs/\JQ f=0
theorem okV.m (h:okV f):okM f:=⟨⟨by have:=h.1.1;omega,fun x hx=>by obtain ⟨a,b,c⟩:=h.1.2 x hx;exact ⟨a,by omega,c⟩⟩,h.2⟩
theorem qS (h:okM f):zpy f.xs/\JO f/\Xa f/\YW f/\Xd f/\Zk f/\Gb f:=by
 obtain ⟨h0,h⟩:=h;unfold JQ at h;refine ⟨h0,?_⟩;split at h
 ·split at h
  ·split at h
   ·split at h
    ·split at h
     ·split at h
      ·exact ⟨by assumption,by assumption,by assumption,by assumption,by assumption,by assumption⟩
      ·cases h
     ·cases h
    ·cases h
   ·cases h
  ·cases h
 ·cases h
theorem Nt {es:List zN}:∀ {S:List Int} {n:Int},n∈HV S es↔n∈S∨∃ e∈es,e.ino=n:=by
 induction es with
 | nil=>intro S n;simp[HV]
 | cons e r ih =>
  intro S n;show n∈HV (YV S e.ino) r↔_;rw[ih,GC];constructor
  ·rintro ((h | h) | ⟨e',he,h⟩)
   ·exact .inl h
   ·exact .inr ⟨e,Wk,h.symm⟩
   ·exact .inr ⟨e',Wl _ he,h⟩
  ·rintro (h | ⟨e',he,h⟩)
   ·exact .inl (.inl h)
   ·rcases WF.1 he with rfl | he
    ·exact .inl (.inr h.symm)
    ·exact .inr ⟨e',he,h⟩
theorem MS {es:List zN}:∀ {S:List Int},YT xs S->(∀ e∈es,zl e.ino xs=true)->YT xs (HV S es):=by
 induction es with
 | nil=>intro S h _;exact h
 | cons e r ih=>intro S h he;exact ih (h.one (he e Wk)) fun e' h'=>he e' (Wl _ h')
theorem Nm {xs:List zn} (h3:∀ x∈xs,∀ e∈x.es,zl e.ino xs=true):∀ (m i:Nat) (S:List Int),YT xs S->(∀ n∈S,∃ k,Dep xs k n)->YT xs (Zy xs m i S)/\∀ n∈Zy xs m i S,∃ k,Dep xs k n
 | 0,i,S,h,hd=>by unfold Zy;exact ⟨h,hd⟩
 | m+1,i,S,h,hd=>by
  unfold Zy;split
  ·rename_i n hn;have hmem:=Wg hn;have hh:=h.has n hmem;obtain ⟨hm,_⟩:=jD hh;obtain ⟨k,hk⟩:=hd n hmem;refine Nm h3 m (i+1) _ (MS h fun e he=>h3 _ hm e he) fun n' hn'=>?_;rcases Nt.1 hn' with h' | ⟨e,he,rfl⟩
   ·exact hd n' h'
   ·exact ⟨k+1,.step hk hh he⟩
  ·exact ⟨h,hd⟩
theorem zf0 {S T:List Int} (hS:S.Nodup) (hs:∀ n∈S,n∈T) (hl:T.length<=S.length):∀ n∈T,n∈S:=by
 intro n hn;by_cases h:n∈S
 ·exact h
 ·exfalso
  have:=UT (S:=n :: S) (T:=T) (OV.2 ⟨h,hS⟩) fun m hm=>by
   rcases WF.1 hm with rfl | hm
   ·exact hn
   ·exact hs m hm
  rw[Wh]at this;omega
theorem vb (h:okM f) {n:Int} (hn:zl n f.xs=true):∃ k,Dep f.xs k n:=by
 obtain ⟨_,h1,_,h3,_,h5,_⟩:=qS h;have hroot:YT f.xs [1]:=⟨by simp,fun n hn=>by simp at hn;subst hn;exact h1.2.2.2.2.2.2.2.1⟩;obtain ⟨g1,g2⟩:=Nm h3 (f.xs.length+1) 0 [1] hroot fun n hn=>by simp at hn;subst hn;exact ⟨0,.root⟩
 have hS:=zf0 (T:=f.xs.map (·.ino)) g1.nodup (fun m hm=>N8.1 (g1.has m hm)) (by rw[We];exact Nat.le_of_eq h5.symm) n (N8.1 hn);exact g2 n hS
theorem Z2 {e:zN} (hh:zl n xs=true) (he:e∈(zf n xs).es):(e.ino,n)∈qt xs:=by
 obtain ⟨hm,hi⟩:=jD hh;unfold qt;exact Au.2 ⟨_,hm,WV.2 ⟨e,he,by rw[hi]⟩⟩
theorem znH (h:(n,p)∈l):1<=ZI n l:=by
 unfold ZI;exact WI.2 (List.ne_nil_of_mem (OC.2 ⟨h,by simp⟩))
theorem ua {q:Int} (hp:(n,p)∈l) (hq:(n,q)∈l) (h:ZI n l=1):p=q:=by
 unfold ZI at h;obtain ⟨x,hx⟩:=List.length_eq_one_iff.1 h;have h1:(n,p)∈l.filter fun p=>p.1==n:=OC.2 ⟨hp,by simp⟩;have h2:(n,q)∈l.filter fun p=>p.1==n:=OC.2 ⟨hq,by simp⟩;rw[hx]at h1 h2;simp only[W0]at h1 h2;exact Wu Prod.snd (h1.trans h2.symm)
theorem kQ (h:okM f) {n:Int} (hh:zl n f.xs=true) {e:zN} (he:e∈(zf n f.xs).es):(zf n f.xs).kind=2:=by
 obtain ⟨_,_,h2,_⟩:=qS h;obtain ⟨hm,_⟩:=jD hh;by_cases hk:(zf n f.xs).kind=2
 ·exact hk
 ·have:=((h2 _ hm).2.1 hk).1;rw[this]at he;cases he
theorem jQ (h:okM f) {n:Int} (hh:zl n f.xs=true) {e:zN} (he:e∈(zf n f.xs).es):e.ino≠1:=fun h1=>by
 obtain ⟨_,hf,_,_,h4,_⟩:=qS h;obtain ⟨hm,hi⟩:=jD hf.2.2.2.2.2.2.2.1;have hq:=(h4 _ hm).2;rw[if_pos hi,hi]at hq;have:=znH (Z2 hh he);rw[h1]at this;omega
theorem VH {f:FsV} (h:okM f):∀ (k k':Nat) (n:Int),Dep f.xs k n->Dep f.xs k' n->zl n f.xs=true->(zf n f.xs).kind=2->k=k'
 | 0,0,_,_,_,_,_=>rfl
 | 0,k'+1,_,h1,h2,hh,hk=>by
  cases h1;generalize hn:(1:Int)=n at h2;cases h2 with
  | step a b c=>exact absurd hn.symm (jQ h b c)
 | k+1,0,_,h1,h2,hh,hk=>by
  cases h2;generalize hn:(1:Int)=n at h1;cases h1 with
  | step a b c=>exact absurd hn.symm (jQ h b c)
 | k+1,k'+1,n,h1,h2,hh,hk=>by
  obtain ⟨_,hf,_,_,h4,_⟩:=qS h;cases h1 with
  | @step _ p e a b c =>
   generalize hn:e.ino=n at h2 hh hk;cases h2 with
   | @step _ p' e' a' b' c' =>
    have hp:=Z2 b c;have hp':=Z2 b' c';rw[hn]at hp;obtain ⟨hm,hi⟩:=jD hh;have hq:=(h4 _ hm).2;rw[hi]at hq;have hne:e'.ino≠1:=jQ h b' c';rw[if_neg hne]at hq;have:=ua hp hp' (hq.2 hk).1;subst this;rw[VH h k k' p a a' b (kQ h b c)]
end
section
theorem Qn (n:Int):∀ xs:List zn,ZI n (qt xs)=Yh n xs
 | []=>rfl
 | x :: r=>by
  have ih:=Qn n r;unfold Yh GL at ih ⊢;unfold qt at ih ⊢;rw[Ap,Wq,OY,←ih];unfold ZI Yk;rw[Oz,Wn];congr 1
  induction x.es with
  | nil=>rfl
  | cons e es ie =>
   unfold VO at ie ⊢;rw[Wq,O4,O4];by_cases h:e.ino=n
   ·simp only[h,beq_self_eq_true,if_true,decide_true,Wh,ie]
   ·simp only[show (e.ino==n)=false from O1.2 h,Wj h,WX,Oh,ie]
theorem Ux (h:JQ f=0):JO f/\Xa f/\YW f/\Xd f/\Zk f/\Gb f:=by
 unfold JQ at h;split at h
 ·split at h
  ·split at h
   ·split at h
    ·split at h
     ·split at h
      ·exact ⟨by assumption,by assumption,by assumption,by assumption,by assumption,by assumption⟩
      ·cases h
     ·cases h
    ·cases h
   ·cases h
  ·cases h
 ·cases h
theorem xE {es:List zN} (h:Xr es):Jb es:=by
 have hadj:∀ i (h1:i+1<es.length),Op.bytesLess es[i].name es[i+1].name=true:=fun i h1=>(h (i+1) h1).2.2 (by omega);have key:∀ (d i:Nat) (h1:i+d+1<es.length),Op.bytesLess (es[i]'(by omega)).name es[i+d+1].name=true:=by
  intro d
  induction d with
  | zero=>intro i h1;exact hadj i h1
  | succ d ih=>intro i h1;exact NT (ih i (by omega)) (hadj (i+d+1) (by omega))
 refine WR.2 fun i j hi hj hij=>?_;have:=key (j-i-1) i (by omega);have e:i+(j-i-1)+1=j:=by omega
 simp only[e]at this;exact this
theorem Vg (h:JQ f=0):FsI f:=by
 obtain ⟨h1,h2,h3,h4,h5,h6⟩:=Ux h;obtain ⟨a1,a2,a3,a4,a5,a6,a7,a8,a9⟩:=h1;refine ⟨a7,a6,fun x hx=>(h2 x hx).1,fun x hx=>?_,fun x hx hk=>((h2 x hx).2.1 hk).1,h3,fun x hx=>?_,a8,a9,?_⟩
 ·by_cases hk:x.kind=2
  ·exact xE ((h2 x hx).2.2.1 hk).2
  ·rw[((h2 x hx).2.1 hk).1];exact List.Pairwise.nil
 ·rw[(h4 x hx).1,Qn]
 ·obtain ⟨b1,b2⟩:=jD a8;have q:=(h4 _ b1).2;rw[b2,if_pos rfl,Qn]at q;exact q.1
theorem zsP (h:okW w):Zm w:=by
 obtain ⟨h1,h2,h3,h4,h5⟩:=h.2;exact ⟨Vg h1,h4.1,h2,fun x hx=>⟨(h3 x hx).1,(h3 x hx).2.2.1⟩⟩
theorem zgf (h:okW w):yS 40 w:=by
 obtain ⟨⟨g1,g2,g3,g4⟩,h1,_⟩:=h;obtain ⟨a1,a2,a3,a4,a5,_⟩:=(Ux h1).1;exact ⟨g2.1,fun x hx=>by obtain ⟨q1,q2,q3⟩:=g2.2 x hx;exact ⟨q2,q1,q3⟩,g4,g1,g3.1,fun x hx=>by obtain ⟨q1,q2,q3⟩:=g3.2 x hx;exact ⟨q2,q1,q3⟩,by omega,by omega⟩
theorem yS.s (h:yS N w) (hi:Zm w) (hN:N<=10000):v6 w:=by
 have hr:=uC hi.fs;have hn:=h.next;exact ⟨⟨by have:=h.len;omega,fun x hx=>by obtain ⟨q1,q2,q3⟩:=h.node x hx;exact ⟨by omega,by omega,fun e he=>by have:=q3 e he;omega⟩⟩,⟨by omega,by omega⟩,by have:=h.klen;omega,by have:=h.plen;omega⟩
structure OpS (o:OpV):Prop where
 a:o.a.length<=1000
 b:o.b.length<=1000
 d:o.d.length<=5000
structure UJ (N:Nat) (d:zX):Prop where
 wi:Zm d.w
 wb:yS (40+N) d.w
 ops:d.ops.length<=N
 diags:d.diags.length<=N
 slot:0<=d.slot/\d.slot<=1073741824+N
theorem UJ.s (h:UJ N d) (hN:N<=9000):zaB d:=
 ⟨h.wi,h.wb.s h.wi (by omega),by have:=h.ops;omega,by have:=h.diags;omega,h.slot.1,by have:=h.slot.2;omega⟩
theorem UJ.up (h:UJ N d):UJ (N+1) d:=⟨h.wi,h.wb.up,by have:=h.ops;omega,by have:=h.diags;omega,h.slot.1,by have:=h.slot.2;omega⟩
theorem yp {o:OpV} (h:(Qe d o).2≠0):(Qe d o).1=d:=by
 unfold Qe at h ⊢;split
 ·rfl
 ·split
  ·rfl
  ·rename_i h1 h2;rw[if_neg h1,if_neg h2]at h;exact absurd rfl h
theorem zqL (h:UJ N d) {o:OpV} (ho:o.d.length<=5000):UJ (N+1) (Qe d o).1:=by
 by_cases hz:(Qe d o).2=0
 case neg=>rw[yp hz];exact h.up
 unfold Qe at hz ⊢;split at hz
 ·exact absurd hz (show ¬(12:Int)=0 by decide)
 rename_i hk;rw[if_neg hk];split at hz
 ·rename_i hd;exact absurd hz hd
 rename_i hd;rw[if_neg hd];have hs:=h.slot;have hk7:(Zz d o).kind<=7:=by show o.kind<=7;omega
 refine ⟨ztB h.wi _ hk7,doB h.wi h.wb _ ho hk7,by simp;exact h.ops,by have:=h.diags;simp only;omega,?_⟩;simp only;unfold Zz;simp only;split<;>split<;>omega
end
section
theorem xB {f:FsV} (h:okM f):∀ (k:Nat) (n:Int),Dep f.xs k n->zl n f.xs=true->(zf n f.xs).kind=2->∃ L:List Int,L.length=k+1/\L.Nodup/\(∀ m∈L,zl m f.xs=true)/\∀ m∈L,(zf m f.xs).kind=2/\∃ j,j<=k/\Dep f.xs j m
 | 0,n,hd,hh,hk=>⟨[n],rfl,by simp,fun m hm=>by simp at hm;subst hm;exact hh,fun m hm=>by simp at hm;subst hm;exact ⟨hk,0,Wc _,hd⟩⟩
 | k+1,_,hd,hh,hk=>by
  generalize hn:k+1=k1 at hd;cases hd with
  | root=>cases hn
  | @step k0 p e a b c =>
   obtain rfl:k=k0:=by omega
   obtain ⟨L,l1,l2,l3,l4⟩:=xB h k p a b (kQ h b c);refine ⟨e.ino :: L,by simp[l1],OV.2 ⟨fun hm=>?_,l2⟩,fun m hm=>?_,fun m hm=>?_⟩
   ·obtain ⟨_,j,hj,hd⟩:=l4 _ hm;have:=VH h _ _ _ hd (.step a b c) hh hk;omega
   ·rcases WF.1 hm with rfl | hm
    ·exact hh
    ·exact l3 m hm
   ·rcases WF.1 hm with rfl | hm
    ·exact ⟨hk,k+1,Wc _,.step a b c⟩
    ·obtain ⟨q1,j,q2,q3⟩:=l4 m hm;exact ⟨q1,j,by omega,q3⟩
theorem zbG (h:okM f) {k:Nat} {n:Int} (hd:Dep f.xs k n) (hh:zl n f.xs=true) (hk:(zf n f.xs).kind=2):k<f.xs.length:=by
 obtain ⟨L,l1,l2,l3,_⟩:=xB h k n hd hh hk;have:=Vn l2 l3;omega
def jg (xs:List zn):Nat->Int->List Lz->Ya
 | 0,_,_=>[]
 | m+1,n,ns=>if zl n xs then (ns,zf n xs) :: (zf n xs).es.flatMap (fun e=>jg xs m e.ino (ns++[e.name])) else []
theorem Zg {α β:Type} {l:List α} {g g':α->List β} (h:∀ a∈l,g a=g' a):l.flatMap g=l.flatMap g':=by
 induction l with
 | nil=>rfl
 | cons a r ih=>rw[Ap,Ap,h a Wk,ih fun b hb=>h b (Wl _ hb)]
theorem yk {f:FsV} (h:okM f):∀ (m m' k:Nat) (n:Int) (ns:List Lz),Dep f.xs k n->k<=f.xs.length->f.xs.length+1<=m+k->f.xs.length+1<=m'+k->jg f.xs m n ns=jg f.xs m' n ns
 | 0,m',k,n,ns,hd,hk,h1,h2=>by omega
 | m+1,0,k,n,ns,hd,hk,h1,h2=>by omega
 | m+1,m'+1,k,n,ns,hd,hk,h1,h2=>by
  unfold jg;split
  ·rename_i hh;congr 1;refine Zg fun e he=>?_;have hdir:=kQ h hh he;have hlt:=zbG h hd hh hdir;exact yk h m m' (k+1) e.ino _ (.step hd hh he) (by omega) (by omega) (by omega)
  ·rfl
abbrev trV (xs:List zn):Int->List Lz->Ya:=jg xs (xs.length+1)
theorem zmD (h:okM f) {n:Int} (hh:zl n f.xs=true):∃ k,k<=f.xs.length/\Dep f.xs k n:=by
 obtain ⟨k,hd⟩:=vb h hh;refine ⟨k,?_,hd⟩;cases hd with
 | root=>exact Wb _
 | step a b c=>exact zbG h a b (kQ h b c)
theorem zn5 (h:okM f):zbI f (trV f.xs):=⟨fun n ns hh=>by
 obtain ⟨k,hk,hd⟩:=zmD h hh;show jg f.xs (f.xs.length+1) n ns=_;rw[jg,if_pos hh];congr 1;refine Zg fun e he=>?_;have hlt:=zbG h hd hh (kQ h hh he);exact yk h _ _ (k+1) e.ino _ (.step hd hh he) (by omega) (by omega) (by omega),fun n ns hh=>by
 show jg f.xs (f.xs.length+1) n ns=_;rw[jg,if_neg (by rw[hh];decide)]⟩
theorem zmR (h:okM f):zfh f (trV f.xs):=by
 obtain ⟨p0,p1,p2,p3,_⟩:=qS h;exact ⟨zn5 h,p0,p1.2.2.2.2.2.2.1,p3,fun x hx hk=>((p2 x hx).2.1 hk).1⟩
end
section
theorem QX (ns:List Lz) (x:Lz) (hne:∀ y∈ns,y≠[]):qC (ns++[x])=kC (qC ns) x:=by
 have hj:=MR (ns++[x]) ns.length x (by simp);rw[Wf (by simp),OK rfl]at hj;unfold qC;rw[if_neg (by simp),hj];by_cases h:ns = []
 ·subst h;rfl
 ·have hl:ns.length≠0:=fun h0=>h (W6 h0);rw[if_neg hl,if_neg h];have hne47:(47 :: Lib.join ns [47])≠[47]:=fun he=>by
   have h1:Lib.join ns [47] = []:=(List.cons.inj he).2;have h2:=Q5 ns h;rw[h1]at h2;cases ns with
   | nil=>exact h rfl
   | cons y r =>
    have:=WI.2 (hne y Wk);simp at h2;omega
  unfold kC;rw[if_neg hne47];simp
end
section
inductive Anc (xs:List zn) (n:Int):Nat->Int->Prop
 | same:Anc xs n 0 n
 | step {j:Nat} {p:Int} {e:zN}:Anc xs n j p->zl p xs=true->e∈(zf p xs).es->Anc xs n (j+1) e.ino
theorem Anc.dep (hd:Dep xs k n):∀ {j:Nat} {d:Int},Anc xs n j d->Dep xs (k+j) d
 | _,_,.same=>hd
 | _,_,.step a b c=>.step (a.dep hd) b c
theorem Anc.up {e:zN} (hh:zl n xs=true) (he:e∈(zf n xs).es):∀ {j:Nat} {d:Int},Anc xs e.ino j d->Anc xs n (j+1) d
 | _,_,.same=>.step .same hh he
 | _,_,.step a b c=>.step (a.up hh he) b c
theorem XU {xs:List zn}:∀ (m:Nat) (n:Int) (ns:List Lz),∀ p∈jg xs m n ns,∃ j,Anc xs n j p.2.ino/\zl p.2.ino xs=true/\zf p.2.ino xs=p.2
 | 0,n,ns,p,hp=>by cases hp
 | m+1,n,ns,p,hp=>by
  unfold jg at hp;split at hp
  ·rename_i hh;obtain ⟨_,hi⟩:=jD hh;rcases WF.1 hp with rfl | hp
   ·exact ⟨0,by rw[hi];exact .same,by rw[hi];exact hh,by rw[hi]⟩
   ·obtain ⟨e,he,hp⟩:=Au.1 hp;obtain ⟨j,q1,q2⟩:=XU m _ _ p hp;exact ⟨j+1,q1.up hh he,q2⟩
  ·cases hp
theorem zaX {f:FsV} (h:okM f) {a b:Int}:∀ (j:Nat) (d:Int),Anc f.xs a j d->Anc f.xs b j d->zl d f.xs=true->(zf d f.xs).kind=2->a=b/\zl a f.xs=true/\(zf a f.xs).kind=2
 | 0,d,h1,h2,hh,hk=>by
  cases h1;cases h2;exact ⟨rfl,hh,hk⟩
 | j+1,d,h1,h2,hh,hk=>by
  obtain ⟨_,_,_,_,h4,_⟩:=qS h;cases h1 with
  | @step _ p e x y z =>
   generalize hn:e.ino=d at h2 hh hk;cases h2 with
   | @step _ p' e' x' y' z' =>
    have hp:=Z2 y z;have hp':=Z2 y' z';rw[hn]at hp;obtain ⟨hm,hi⟩:=jD hh;have hq:=(h4 _ hm).2;rw[hi,if_neg (jQ h y' z')]at hq;have:=ua hp hp' (hq.2 hk).1;subst this;exact zaX h j p x x' y (kQ h y z)
theorem zn8 {e e':zN} (hh:zl n xs=true) (hs:[e,e'].Sublist (zf n xs).es) (hi:e.ino=e'.ino):2<=ZI e.ino (qt xs):=by
 obtain ⟨hm,hino⟩:=jD hh;have h1:([e,e'].map fun e=>(e.ino,(zf n xs).ino)).Sublist (VO (zf n xs) (zf n xs).es):=hs.map _;obtain ⟨i,hi',hx⟩:=Wt hm;have h2:(VO (zf n xs) (zf n xs).es).Sublist (qt xs):=by
  obtain ⟨s,t,hst⟩:=List.append_of_mem hm;unfold qt
  conv=>rhs;rw[hst]
  rw[Bp,Ap];exact (List.sublist_append_left _ _).trans (List.sublist_append_right _ _)
 have h3:=((h1.trans h2).filter fun p=>p.1==e.ino).length_le;unfold ZI;simpa [hi] using h3
abbrev Y4 (l:Ya):List Int:=(l.filter fun p=>decide (p.2.kind=2)).map fun p=>p.2.ino
theorem UV {l:Ya} {d:Int} (h:d∈Y4 l):∃ p∈l,p.2.kind=2/\p.2.ino=d:=by
 obtain ⟨p,hp,rfl⟩:=WV.1 h;obtain ⟨h1,h2⟩:=OC.1 hp;exact ⟨p,h1,WP h2,rfl⟩
theorem Xv {f:FsV} (h:okM f):∀ (m:Nat) (n:Int) (ns:List Lz),zl n f.xs=true->(Y4 (jg f.xs m n ns)).Nodup
 | 0,n,ns,_=>Ak
 | m+1,n,ns,hh=>by
  obtain ⟨k,hd⟩:=vb h hh;obtain ⟨_,_,_,h3,h4,_⟩:=qS h;obtain ⟨hm,hi⟩:=jD hh;have key:∀ L:List zN,L.Sublist (zf n f.xs).es->(Y4 (L.flatMap fun e=>jg f.xs m e.ino (ns++[e.name]))).Nodup:=by
   intro L
   induction L with
   | nil=>intro _;exact Ak
   | cons e r ih =>
    intro hs;have he:e∈(zf n f.xs).es:=hs.subset Wk;have hr:r.Sublist (zf n f.xs).es:=(List.sublist_cons_self e r).trans hs;have hap:Y4 ((e :: r).flatMap fun e=>jg f.xs m e.ino (ns++[e.name]))=Y4 (jg f.xs m e.ino (ns++[e.name]))++Y4 (r.flatMap fun e=>jg f.xs m e.ino (ns++[e.name])):=by
     rw[Ap];unfold Y4;rw[Oz,WS]
    rw[hap,Ag];refine ⟨Xv h m e.ino _ (h3 _ hm e he),ih hr,fun d hd1 d' hd2 hdd=>?_⟩;subst hdd;obtain ⟨p,p1,p2,rfl⟩:=UV hd1;obtain ⟨p',p1',p2',p3'⟩:=UV hd2;obtain ⟨e',he',p1'⟩:=Au.1 p1';obtain ⟨j,a1,a2,a3⟩:=XU m _ _ p p1;obtain ⟨j',b1,b2,b3⟩:=XU m _ _ p' p1';rw[p3']at b1;have hk:(zf p.2.ino f.xs).kind=2:=by rw[a3];exact p2
    have hdep:=VH h _ _ _ (a1.dep (.step hd hh he)) (b1.dep (.step hd hh (hr.subset he'))) a2 hk;obtain rfl:j=j':=by omega
    obtain ⟨q1,q2,q3⟩:=zaX h j _ a1 b1 a2 hk;have hs2:[e,e'].Sublist (zf n f.xs).es:=(List.Sublist.cons_cons e (List.singleton_sublist.2 he')).trans hs;have h2:=zn8 hh hs2 q1;obtain ⟨hm2,hi2⟩:=jD q2;have hq:=(h4 _ hm2).2;rw[hi2,if_neg (jQ h hh he)]at hq;have:=(hq.2 q3).1;omega
  unfold jg;rw[if_pos hh];by_cases hk:(zf n f.xs).kind=2
  ·have hc:Y4 ((ns,zf n f.xs) :: (zf n f.xs).es.flatMap fun e=>jg f.xs m e.ino (ns++[e.name]))=n :: Y4 ((zf n f.xs).es.flatMap fun e=>jg f.xs m e.ino (ns++[e.name])):=by
    unfold Y4;rw[Og (by simpa using hk),Wq,hi]
   rw[hc,OV];refine ⟨fun hmem=>?_,key _ (List.Sublist.refl _)⟩;obtain ⟨p,p1,p2,p3⟩:=UV hmem;obtain ⟨e,he,p1⟩:=Au.1 p1;obtain ⟨j,a1,a2,a3⟩:=XU m _ _ p p1;rw[p3]at a1;have:=VH h _ _ _ (a1.dep (.step hd hh he)) hd hh hk;omega
  ·have hc:Y4 ((ns,zf n f.xs) :: (zf n f.xs).es.flatMap fun e=>jg f.xs m e.ino (ns++[e.name]))=Y4 ((zf n f.xs).es.flatMap fun e=>jg f.xs m e.ino (ns++[e.name])):=by
    unfold Y4;rw[OH (by simpa using hk)]
   rw[hc];exact key _ (List.Sublist.refl _)
end
section
def Hh (l:Ya):Nat:=(l.map fun p=>p.2.es.length).sum
theorem zgS (a b:Ya):Hh (a++b)=Hh a+Hh b:=by unfold Hh;rw[WS,BP]
theorem zaZ {xs:List zn}:∀ (m:Nat) (n:Int) (ns:List Lz),(jg xs m n ns).length<=1+Hh (jg xs m n ns)
 | 0,n,ns=>Wb _
 | m+1,n,ns=>by
  unfold jg;split
  ·have key:∀ L:List zN,(L.flatMap fun e=>jg xs m e.ino (ns++[e.name])).length<=L.length+Hh (L.flatMap fun e=>jg xs m e.ino (ns++[e.name])):=by
    intro L
    induction L with
    | nil=>exact Wc _
    | cons e r ih =>
     rw[Ap,Wn,zgS,Wh];have:=zaZ (xs:=xs) m e.ino (ns++[e.name]);omega
   have:=key (zf n xs).es;have hs:∀ l:Ya,Hh ((ns,zf n xs) :: l)=(zf n xs).es.length+Hh l:=fun l=>by unfold Hh;rw[Wq,OY]
   rw[Wh,hs];omega
  ·exact Wb _
theorem zly {l:Ya} (h:∀ p∈l,p.2.es.length<=3240/\(p.2.kind≠2->p.2.es = [])):Hh l<=3240*(Y4 l).length:=by
 induction l with
 | nil=>exact Wb _
 | cons p r ih =>
  have hp:=h p Wk;have ih:=ih fun q hq=>h q (Wl _ hq);unfold Hh at ih ⊢;rw[Wq,OY];unfold Y4 at ih ⊢;by_cases hk:p.2.kind=2
  ·rw[Og (by simpa using hk),Wq,Wh];omega
  ·rw[OH (by simpa using hk),hp.2 hk];simpa using ih
theorem zlm (h:okM f) (m:Nat) (n:Int) (ns:List Lz):(jg f.xs m n ns).length<=10497601:=by
 obtain ⟨h0,_,h2,_⟩:=qS h;cases hh:zl n f.xs with
 | false =>
  cases m with
  | zero=>exact Wb _
  | succ m=>unfold jg;rw[hh];exact Wb _
 | true =>
  have h1:=zaZ (xs:=f.xs) m n ns;have hg:∀ p∈jg f.xs m n ns,p.2∈f.xs:=fun p hp=>by
   obtain ⟨j,_,q2,q3⟩:=XU m n ns p hp;rw[←q3];exact (jD q2).1
  have hs:=zly (l:=jg f.xs m n ns) fun p hp=>⟨(h0.2 _ (hg p hp)).2.1,fun hk=>((h2 _ (hg p hp)).2.1 hk).1⟩;have hd:=Vn (Xv h m n ns hh) fun d hd=>by
   obtain ⟨p,p1,_,rfl⟩:=UV hd;obtain ⟨_,_,q2,_⟩:=XU m n ns p p1;exact q2
  have:=h0.1;omega
def ziF (ns:List Lz):Nat:=(ns.map fun x=>x.length+1).sum
theorem xX (ns:List Lz) (x:Lz):ziF (ns++[x])=ziF ns+(x.length+1):=by
 unfold ziF;rw[WS,BP];simp
theorem Uf {xs:List zn} (h0:zpy xs):∀ (m:Nat) (n:Int) (ns:List Lz),∀ p∈jg xs m n ns,p.1.length<=ns.length+m/\ziF p.1<=ziF ns+m*301
 | 0,n,ns,p,hp=>by cases hp
 | m+1,n,ns,p,hp=>by
  unfold jg at hp;split at hp
  ·rename_i hh;obtain ⟨hm,_⟩:=jD hh;rcases WF.1 hp with rfl | hp
   ·exact ⟨BK _ _,BK _ _⟩
   ·obtain ⟨e,he,hp⟩:=Au.1 hp;obtain ⟨q1,q2⟩:=Uf h0 m _ _ p hp;have:=(h0.2 _ hm).2.2 e he;rw[xX]at q2;rw[Wn,Om]at q1;exact ⟨by omega,by omega⟩
  ·cases hp
theorem QE (ns:List Lz):(Lib.join ns [47]).length<=ziF ns:=by
 by_cases h:ns = []
 ·subst h;exact Wb _
 ·have:=Q5 ns h;unfold ziF;omega
theorem zjD (h:okM f) (n:Int) (ns:List Lz) (h1:ns.length<=100000) (h2:ziF ns<=20000):u0 (trV f.xs) n ns:=by
 obtain ⟨h0,_⟩:=qS h;refine ⟨WJ (zlm h _ n ns) (by decide),fun p hp=>?_⟩;obtain ⟨q1,q2⟩:=Uf h0 _ n ns p hp;have:=QE p.1;have:=h0.1;exact ⟨by omega,by omega⟩
end
section
theorem Gj {xs:List zn}:∀ (m:Nat) (n:Int) (ns:List Lz) (j:Nat) (d:Int),Anc xs n j d->j<m->zl n xs=true->(∀ x∈xs,∀ e∈x.es,zl e.ino xs=true)->∃ p∈jg xs m n ns,p.2.ino=d
 | 0,n,ns,j,d,ha,hj,hh,h3=>by omega
 | m+1,n,ns,0,d,ha,hj,hh,h3=>by
  cases ha;obtain ⟨_,hi⟩:=jD hh;refine ⟨(ns,zf n xs),?_,hi⟩;unfold jg;rw[if_pos hh];exact Wk
 | m+1,n,ns,j+1,d,ha,hj,hh,h3=>by
  have key:∀ (j:Nat) (d:Int),Anc xs n (j+1) d->∃ e∈(zf n xs).es,Anc xs e.ino j d:=by
   intro j
   induction j with
   | zero =>
    intro d ha;cases ha with
    | step a b c=>cases a;exact ⟨_,c,.same⟩
   | succ j ih =>
    intro d ha;cases ha with
    | step a b c =>
     obtain ⟨e,he,h⟩:=ih _ a;exact ⟨e,he,.step h b c⟩
  obtain ⟨e,he,h⟩:=key j d ha;obtain ⟨hm,_⟩:=jD hh;obtain ⟨p,p1,p2⟩:=Gj m e.ino (ns++[e.name]) j d h (by omega) (h3 _ hm e he) h3;refine ⟨p,?_,p2⟩;unfold jg;rw[if_pos hh];exact Wl _ (Au.2 ⟨e,he,p1⟩)
theorem zfu {xs:List zn}:∀ {k:Nat} {n:Int},Dep xs k n->Anc xs 1 k n
 | _,_,.root=>.same
 | _,_,.step a b c=>.step (zfu a) b c
theorem zel (h:okM f) {n:Int} (hh:zl n f.xs=true):∃ p∈trV f.xs 1 [],p.2.ino=n:=by
 obtain ⟨_,h1,_,h3,_⟩:=qS h;obtain ⟨k,hk,hd⟩:=zmD h hh;exact Gj _ 1 [] k n (zfu hd) (by omega) h1.2.2.2.2.2.2.2.1 h3
theorem Hl {m:Nat} {p:List Lz×zn} (hp:p∈jg f.xs m n ns):zl p.2.ino f.xs=true/\zf p.2.ino f.xs=p.2:=by
 obtain ⟨_,_,q⟩:=XU m n ns p hp;exact q
theorem U7:∀ {l:Ya} {n:Int},(Y4 l).Nodup->(∀ p∈l,p.2.ino=n->p.2.kind=2)->(∃ p∈l,p.2.ino=n)->∃ p,l.filter (fun p=>decide (p.2.ino=n)) = [p]
 | [],n,_,_,⟨p,hp,_⟩=>by cases hp
 | q :: l,n,hn,hk,hex=>by
  have hk':∀ p∈l,p.2.ino=n->p.2.kind=2:=fun p hp=>hk p (Wl _ hp);by_cases hq:q.2.ino=n
  ·have hk2:=hk q Wk hq;have hc:Y4 (q :: l)=q.2.ino :: Y4 l:=by
    unfold Y4;rw[Og (by simpa using hk2),Wq]
   rw[hc,OV,hq]at hn;have he:l.filter (fun p=>decide (p.2.ino=n)) = []:=by
    rw[AU];intro p hp hpn;have hpn:=WP hpn;refine hn.1 ?_;exact WV.2 ⟨p,OC.2 ⟨hp,by simpa using hk' p hp hpn⟩,hpn⟩
   exact ⟨q,by rw[Og (by simpa using hq),he]⟩
  ·have hn':(Y4 l).Nodup:=by
    unfold Y4 at hn ⊢;by_cases hk2:q.2.kind=2
    ·rw[Og (by simpa using hk2),Wq,OV]at hn;exact hn.2
    ·rw[OH (by simpa using hk2)]at hn;exact hn
   obtain ⟨p,hp,hpn⟩:=hex;have hpl:p∈l:=by
    rcases WF.1 hp with rfl | hp
    ·exact absurd hpn hq
    ·exact hp
   obtain ⟨p',h⟩:=U7 hn' hk' ⟨p,hpl,hpn⟩;exact ⟨p',by rw[OH (by simpa using hq)];exact h⟩
theorem yn (h:okM f) {n:Int} (hh:zl n f.xs=true) (hk:(zf n f.xs).kind=2):∃ p,Zv n (trV f.xs 1 []) = [p]/\kR n (trV f.xs 1 [])=some p:=by
 obtain ⟨_,h1,_⟩:=qS h;have hkk:∀ p∈trV f.xs 1 [],p.2.ino=n->p.2.kind=2:=fun p hp hpn=>by
  obtain ⟨_,q⟩:=Hl hp;rw[hpn]at q;rw[←q];exact hk
 obtain ⟨p,hp⟩:=U7 (Xv h _ 1 [] h1.2.2.2.2.2.2.2.1) hkk (zel h hh);refine ⟨qC p.1,by unfold Zv;rw[hp];rfl,?_⟩;unfold kR;have he:(fun q:List Lz×zn=>decide (q.2.ino=n)&&decide (q.2.kind=2))=fun q=>decide (q.2.ino=n)&&decide (q.2.kind=2):=rfl;rw[←List.head?_filter];have hf:(trV f.xs 1 []).filter (fun q=>decide (q.2.ino=n)&&decide (q.2.kind=2))=(trV f.xs 1 []).filter fun q=>decide (q.2.ino=n):=by
  refine List.filter_congr fun q hq=>?_;by_cases hqn:q.2.ino=n
  ·simp[hqn,hkk q hq hqn]
  ·simp[hqn]
 rw[hf,hp];rfl
end
section
theorem NN {xs:List zn} (hm:∀ x∈xs,∀ e∈x.es,may e.name=true):∀ (m:Nat) (n:Int) (ns:List Lz),∀ p∈jg xs m n ns,∃ zs,p.1=ns++zs/\∀ z∈zs,may z=true
 | 0,n,ns,p,hp=>by unfold jg at hp;cases hp
 | m+1,n,ns,p,hp=>by
  unfold jg at hp;split at hp
  ·rename_i hh;rcases WF.1 hp with rfl | hp
   ·exact ⟨[],by simp,fun z hz=>by cases hz⟩
   ·obtain ⟨e,he,hp⟩:=Au.1 hp;obtain ⟨zs,h1,h2⟩:=NN hm m e.ino _ p hp;refine ⟨e.name :: zs,by rw[h1,WH];rfl,fun z hz=>?_⟩;rcases WF.1 hz with rfl | hz
    ·exact hm _ (jD hh).1 e he
    ·exact h2 z hz
  ·cases hp
theorem zio {es:List zN} (h:Xr es):es.Pairwise fun a b=>a.name≠b.name:=by
 have key:∀ (d i:Nat) (hj:i+d+1<es.length),es[i].name<es[i+d+1].name:=by
  intro d
  induction d with
  | zero =>
   intro i hj;have h1:=(h (i+1) hj).2.2 (by omega);rw[bytesLess_eq]at h1;exact WP h1
  | succ d ih =>
   intro i hj;have h1:=(h (i+(d+1)+1) hj).2.2 (by omega);rw[bytesLess_eq]at h1;have h1:=WP h1;have h2:=ih i (by omega);exact List.lt_trans h2 h1
 refine WR.2 fun i j hi hj hij he=>?_;obtain ⟨d,rfl⟩:∃ d,j=i+d+1:=⟨j-i-1,by omega⟩;have h1:=key d i hj;rw[he]at h1;exact List.lt_irrefl _ h1
theorem kM (h:okM f):(∀ x∈f.xs,∀ e∈x.es,may e.name=true)/\∀ x∈f.xs,x.es.Pairwise fun a b=>a.name≠b.name:=by
 obtain ⟨_,_,h2,_⟩:=qS h;have key:∀ x∈f.xs,Xr x.es:=fun x hx=>by
  by_cases hk:x.kind=2
  ·exact ((h2 x hx).2.2.1 hk).2
  ·rw[((h2 x hx).2.1 hk).1];intro i hi;simp at hi
 refine ⟨fun x hx e he=>?_,fun x hx=>zio (key x hx)⟩;obtain ⟨i,hi,rfl⟩:=Wt he;exact (key x hx i hi).1
end
section
open CA CB
open Go.RowKit
def V6 (p n:Lz):Lz:=if Lib.hasSuffix p [47] then p++n else p++[47]++n
theorem zg9 (p n:Lz) (hp:p.length<=1000000) (hn:n.length<=1000000):Fun Tryz.prog G0 69 [.str p,.str n] (.str (V6 p n)) 0:=by
 have h:=ZT p [47] hp;cases hs:Lib.hasSuffix p [47] with
 | true =>
  have e:V6 p n=p++n:=by unfold V6;rw[hs,if_pos rfl]
  rw[hs]at h;refine fon Tryz.func69 ?_;dsimp only[Tryz.f69];push_cast;refine cl h ?_;push_cast
  repeat refine an ?_
  exact dn (by push_cast [ze,zd,CLe,zh,e])
 | false =>
  have e:V6 p n=p++[47]++n:=by unfold V6;rw[hs];rfl
  rw[hs]at h;refine fon Tryz.func69 ?_;dsimp only[Tryz.f69];push_cast;refine cl h ?_;push_cast
  repeat refine an ?_
  exact dn (by push_cast [ze,zd,CLe,zh,e])
theorem zml (h:okM f) {n:Int} (hh:zl n f.xs=true) (hk:(zf n f.xs).kind=2) :
  ∃ ns,(∀ z∈ns,may z=true)/\ns.length<=3241/\ziF ns<=980000/\Zv n (trV f.xs 1 []) = [qC ns]/\kR n (trV f.xs 1 [])=some (qC ns):=by
 obtain ⟨h0,h1,_⟩:=qS h;have hkk:∀ p∈trV f.xs 1 [],p.2.ino=n->p.2.kind=2:=fun p hp hpn=>by
  obtain ⟨_,q⟩:=Hl hp;rw[hpn]at q;rw[←q];exact hk
 obtain ⟨p,hp⟩:=U7 (Xv h _ 1 [] h1.2.2.2.2.2.2.2.1) hkk (zel h hh);obtain ⟨q,q1,q2⟩:=yn h hh hk;have hq:Zv n (trV f.xs 1 []) = [qC p.1]:=by unfold Zv;rw[hp];rfl
 rw[hq]at q1;have hqe:qC p.1=q:=by simpa using q1
 have hpm:p∈trV f.xs 1 []:=(OC.1 (by rw[hp];exact W0.2 rfl)).1;obtain ⟨zs,z1,z2⟩:=NN (kM h).1 _ 1 [] p hpm;obtain ⟨t1,t2⟩:=Uf h0 _ 1 [] p hpm;have t3:=QE p.1;have t4:ziF []=0:=rfl;have h40:=h0.1;rw[OB]at z1;rw[←z1]at z2;simp only[WG,t4]at t1 t2;exact ⟨p.1,z2,by omega,by omega,hq,by rw[q2,hqe]⟩
def qp (f:FsV) (s:zB):Lz:=kC ((kR s.dir (trV f.xs 1 [])).getD []) s.name
theorem MQ (f:FsV) (h:okM f) (s:zB) (hh:zl s.dir f.xs=true) (hk:(zf s.dir f.xs).kind=2) (hm:may s.name=true):Fun Tryz.prog G0 74 [.agg (fsC f),.agg (Ye s)] (.str (qp f s)) 0:=by
 obtain ⟨ns,n1,n2,n3,n4,n5⟩:=zml h hh hk;have hp:=vB f s.dir _ (zmR h) (zjD h 1 [] (by decide) (by decide));have hml:=kZ hm;have hjw:=QE ns;have hjl:(qC ns).length<=980001:=by unfold qC;split<;>simp<;>omega
 have hr:=ke (qC ns) (by omega);unfold zkX at hr;rw[XL ns fun z hz=>JW (n1 z hz)]at hr;have hj:=Qr (ns++[s.name]) (by simp;omega) (by
  have a1:=QE (ns++[s.name]);rw[xX]at a1;omega)
 rw[QX ns s.name fun y hy=>(JW (n1 y hy)).1]at hj;have e:qp f s=kC (qC ns) s.name:=by unfold qp;rw[n5];rfl
 rw[n5]at hp;have hsl:(zV ns).length=ns.length:=We ..;refine fof (fun i=>if i=2 then [false,false,false,false,false,false,true,false,false] else []) Tryz.func74 ?_;dsimp only[Tryz.f74];push_cast;refine cl hp ?_;push_cast [WZ,AZ];refine cl hr ?_;push_cast
 repeat refine an ?_
 refine cl hj ?_;push_cast;exact dn (by push_cast [ze,zd,CLe,zh,e])
end
section
open Go.RowKit
end
section
open Go.RowKit
end
section
open CA CB
open Go.RowKit
end
section
open Go.RowKit Go.ChangeMaps Go.ChangeShapes Go.WideShapes Go.Deep Go.Joins
section
variable {H:Type} {enc:TypeId×Value->H} {W:World}
end
theorem ztZ {W:World} {l:List (String×DataW Unit)} (h:laidMetH Tryz.prog l W) (hp:(l.filter fun x=>x.2.handleName?.isSome) = []) (hm:("drayman/op.has",Rows.laid_drayman_op_has)∈l):X7 G1 (xg W):=fun g cs hc=>by
 unfold G1 at hc;split at hc
 ·rename_i hg;subst hg;cases hc;exact J0 (t:=267) h hp hm (by kernel_rfl) (by kernel_rfl) (m:=4) (by kernel_rfl) (by kernel_rfl) (by kernel_rfl)
 ·cases hc
theorem ztK {W:World} {l:List (String×DataW Unit)} (h:laidMetH Tryz.prog l W) (hp:(l.filter fun x=>x.2.handleName?.isSome) = []) (hm1:("drayman/diag.phrases",Rows.laid_drayman_diag_phrases)∈l) (hm2:("drayman/args.kinds",Rows.laid_drayman_args_kinds)∈l) (hm3:("drayman/errs.messages",Rows.laid_drayman_errs_messages)∈l):X7 G2 (xg W):=fun g cs hc=>by
 unfold G2 at hc;split at hc
 ·rename_i hg;subst hg;cases hc;exact J0 (t:=215) h hp hm1 (by kernel_rfl) (by kernel_rfl) (m:=4) (vs:=phr.map fun l=>Value.string ⟨l.toArray⟩) (by kernel_rfl) (by kernel_rfl) (by kernel_rfl)
 ·split at hc
  ·rename_i hg;subst hg;cases hc;exact J0 (t:=214) h hp hm2 (by kernel_rfl) (by kernel_rfl) (m:=4) (by kernel_rfl) (by kernel_rfl) (by kernel_rfl)
  ·split at hc
   ·rename_i hg;subst hg;cases hc;exact J0 (t:=262) h hp hm3 (by kernel_rfl) (by kernel_rfl) (m:=4) (vs:=zt9.map fun l=>Value.string ⟨l.toArray⟩) (by kernel_rfl) (by kernel_rfl) (by kernel_rfl)
   ·cases hc
theorem ztx {W:World} {l:List (String×DataW Unit)} (h:laidMetH Tryz.prog l W) (hp:(l.filter fun x=>x.2.handleName?.isSome) = []) (hm:("drayman/op.has",Rows.laid_drayman_op_has)∈l) (hm1:("drayman/diag.phrases",Rows.laid_drayman_diag_phrases)∈l) (hm2:("drayman/args.kinds",Rows.laid_drayman_args_kinds)∈l) (hm3:("drayman/errs.messages",Rows.laid_drayman_errs_messages)∈l):X7 GD (xg W):=fun g cs hc=>by
 unfold GD at hc;split at hc
 ·exact ztZ h hp hm g cs hc
 ·exact ztK h hp hm1 hm2 hm3 g cs hc
end
section
structure zmj (x:zn):Prop where
 par:x.kind≠2->x.parent=0
 bare:x.kind=2->x.data = []
 nam:∀ e∈x.es,may e.name=true
 lnk:x.kind=3->1<=x.data.length/\x.data.length<=4095/\∀ b∈x.data,b≠0
 named:x.ino≠1->1<=x.links
 one:x.kind=2->x.ino≠1->x.links=1
 top:x.ino=1->x.parent=1
def ztT (rk:Int->Nat) (xs:List zn):Prop:=∀ y∈xs,∀ e∈y.es,(zf e.ino xs).kind=2->(zf e.ino xs).parent=y.ino/\rk y.ino<rk e.ino
structure FsR (f:FsV):Prop where
 node:∀ x∈f.xs,zmj x
 edge:∃ rk,ztT rk f.xs
 fit:(f.xs.length:Int)<=f.maxI/\(ql f.xs:Int)<=f.maxB
 lim:1<=f.maxI/\f.maxI<=1073741824/\0<=f.maxB/\f.maxB<=1073741824
theorem kz (h:zW xs) {x y:zn} (hx:x∈xs) (hy:y∈xs) (e:x.ino=y.ino):x=y:=by
 obtain ⟨i,hi,rfl⟩:=Wt hx;obtain ⟨j,hj,rfl⟩:=Wt hy;have hp:=WR.1 h;rcases Af i j with q | q | q
 ·have:=hp i j hi hj q;omega
 ·subst q;rfl
 ·have:=hp j i hj hi q;omega
theorem u6 (h:zW xs):(xs.map (·.ino)).Nodup:=by
 rw[List.Nodup,List.pairwise_map];exact List.Pairwise.imp (fun q e=>by omega) h
theorem VI:(n,p)∈qt xs↔∃ y∈xs,∃ e∈y.es,e.ino=n/\y.ino=p:=by
 unfold qt;rw[Au];refine exists_congr fun y=>and_congr_right fun hy=>?_;unfold VO;rw[WV];refine exists_congr fun e=>and_congr_right fun he=>?_;rw[Prod.mk.injEq]
theorem ze5 (h1:1<=ZI n l) (h:∀ q,(n,q)∈l->q=p):UN n l=p:=by
 unfold ZI at h1;unfold UN;cases hq:(l.filter fun p=>p.1==n).getLast? with
 | none=>rw[List.getLast?_eq_none_iff]at hq;rw[hq]at h1;simp at h1
 | some r =>
  obtain ⟨h2,h3⟩:=OC.1 (List.mem_of_getLast? hq);have h3:r.1=n:=by simpa using h3
  show r.2=p;exact h r.2 (by rw[←h3];exact h2)
theorem ziW {es:List zN}:∀ S:List Int,∃ t,HV S es=S++t:=by
 induction es with
 | nil=>exact fun S=>⟨[],by simp[HV]⟩
 | cons e r ih =>
  intro S;obtain ⟨t,h⟩:=ih (YV S e.ino);show ∃ t,HV (YV S e.ino) r=S++t;rw[h];unfold YV;split
  ·exact ⟨t,rfl⟩
  ·exact ⟨e.ino :: t,by simp⟩
theorem Hz {xs:List zn} (h3:∀ x∈xs,∀ e∈x.es,zl e.ino xs=true):∀ (m i:Nat) (S:List Int),YT xs S->(∀ j<i,∀ n,S[j]?=some n->∀ e∈(zf n xs).es,e.ino∈S)->xs.length+1<=m+i ->
  (∀ n∈S,n∈Zy xs m i S)/\∀ n∈Zy xs m i S,∀ e∈(zf n xs).es,e.ino∈Zy xs m i S
 | 0,i,S,hS,hc,hm=>by
  have hl:=Vn hS.nodup hS.has;show (∀ n∈S,n∈S)/\∀ n∈S,∀ e∈(zf n xs).es,e.ino∈S;refine ⟨fun n h=>h,fun n hn e he=>?_⟩;obtain ⟨j,hj,rfl⟩:=Wt hn;exact hc j (by omega) _ (Wa hj) e he
 | m+1,i,S,hS,hc,hm=>by
  unfold Zy;cases hg:S[i]? with
  | none =>
   have hi:=List.getElem?_eq_none_iff.1 hg;show (∀ n∈S,n∈S)/\∀ n∈S,∀ e∈(zf n xs).es,e.ino∈S;refine ⟨fun n h=>h,fun n hn e he=>?_⟩;obtain ⟨j,hj,rfl⟩:=Wt hn;exact hc j (by omega) _ (Wa hj) e he
  | some n =>
   have hn:=hS.has n (Wg hg);have hi:=(Wd.1 hg).1;have hg':=zj hn;obtain ⟨t,ht⟩:=ziW (es:=(zf n xs).es) S;have hsub:∀ k∈S,k∈HV S (zf n xs).es:=fun k hk=>Nt.2 (.inl hk);obtain ⟨r1,r2⟩:=Hz h3 m (i+1) (HV S (zf n xs).es) (MS hS fun e he=>h3 _ hg'.2.1 e he) (fun j hj k hk e he=>by
    rcases Wr j i with hji | hji
    ·have:S[j]?=some k:=by rw[ht,Wv (by omega)]at hk;exact hk
     exact hsub _ (hc j hji k this e he)
    ·have:j=i:=by omega
     subst this;rw[ht,Wv hi,hg]at hk;cases hk;exact Nt.2 (.inr ⟨e,he,rfl⟩)) (by omega)
   exact ⟨fun k hk=>r1 k (hsub k hk),r2⟩
theorem zbz (h:1<=ZI n l):∃ p,(n,p)∈l:=by
 unfold ZI at h;obtain ⟨r,hr⟩:=List.exists_mem_of_length_pos (l:=l.filter fun p=>p.1==n) (by omega);obtain ⟨h1,h2⟩:=OC.1 hr;have h2:r.1=n:=by simpa using h2
 exact ⟨r.2,by rw[←h2];exact h1⟩
theorem FsR.links (hi:FsI f) {x:zn} (hx:x∈f.xs):x.links=(ZI x.ino (qt f.xs):Int):=by rw[Qn];exact hi.links x hx
theorem Nx (hi:FsI f) {y:zn} (hy:y∈f.xs) {e:zN} (he:e∈y.es):y.kind=2:=by
 by_cases h:y.kind=2
 ·exact h
 ·rw[hi.file y hy h]at he;cases he
theorem JF (hi:FsI f) {x:zn} (hx:x∈f.xs):zf x.ino f.xs=x:=by
 have h:=Ji hx;have h2:=zj h;exact kz hi.rises h2.2.1 hx h2.2.2
theorem FsR.come (hi:FsI f) (h:FsR f) {S:List Int} (h1:(1:Int)∈S) (hc:∀ n∈S,∀ e∈(zf n f.xs).es,e.ino∈S):∀ n,zl n f.xs=true->n∈S:=by
 obtain ⟨rk,hr⟩:=h.edge;have dirs:∀ (k:Nat) (n:Int),rk n<=k->zl n f.xs=true->(zf n f.xs).kind=2->n∈S:=by
  intro k
  induction k with
  | zero =>
   intro n hk hn hd;by_cases h0:n=1
   ·rw[h0];exact h1
   obtain ⟨g1,g2,g3⟩:=zj hn;have hl:=(h.node _ g2).named (by rw[g3];exact h0);rw[FsR.links hi g2,g3]at hl;obtain ⟨p,hp⟩:=zbz (n:=n) (l:=qt f.xs) (by omega);obtain ⟨y,hy,e,he,q1,q2⟩:=VI.1 hp;have:=(hr y hy e he (by rw[q1];exact hd)).2;rw[q1]at this;omega
  | succ k ih =>
   intro n hk hn hd;by_cases h0:n=1
   ·rw[h0];exact h1
   obtain ⟨g1,g2,g3⟩:=zj hn;have hl:=(h.node _ g2).named (by rw[g3];exact h0);rw[FsR.links hi g2,g3]at hl;obtain ⟨p,hp⟩:=zbz (n:=n) (l:=qt f.xs) (by omega);obtain ⟨y,hy,e,he,q1,q2⟩:=VI.1 hp;have hlt:=(hr y hy e he (by rw[q1];exact hd)).2;rw[q1]at hlt;have hs:=JF hi hy;have:=ih y.ino (by omega) (Ji hy) (by rw[hs];exact Nx hi hy he);rw[←q1];exact hc y.ino this e (by rw[hs];exact he)
 intro n hn;by_cases h0:n=1
 ·rw[h0];exact h1
 obtain ⟨g1,g2,g3⟩:=zj hn;have hl:=(h.node _ g2).named (by rw[g3];exact h0);rw[FsR.links hi g2,g3]at hl;obtain ⟨p,hp⟩:=zbz (n:=n) (l:=qt f.xs) (by omega);obtain ⟨y,hy,e,he,q1,q2⟩:=VI.1 hp;have hs:=JF hi hy;have:=dirs _ y.ino (Wc _) (Ji hy) (by rw[hs];exact Nx hi hy he);rw[←q1];exact hc y.ino this e (by rw[hs];exact he)
theorem uR {es:List zN} (hR:Jb es) (h1:∀ e∈es,may e.name=true) (h2:∀ e∈es,1<=e.ino):Xr es:=fun i h =>
 ⟨h1 _ (Ww h),h2 _ (Ww h),fun h0=>WR.1 hR (i-1) i (by omega) h (by omega)⟩
theorem FsR.check (hi:FsI f) (h:FsR f) (hn:f.next<=1099511627776):JQ f=0:=by
 have h1:JO f:=⟨h.lim.1,h.lim.2.1,h.lim.2.2.1,h.lim.2.2.2,hn,hi.ino,hi.rises,hi.root,hi.base⟩;have h2:Xa f:=fun x hx=>⟨hi.kind x hx,fun hk=>⟨hi.file x hx hk,(h.node x hx).par hk⟩,fun hk=>⟨(h.node x hx).bare hk,uR (hi.es x hx) (h.node x hx).nam fun e he=>by
  have:=hi.led x hx e he;have g:=zj this;have:=(hi.ino _ g.2.1).1;rw[g.2.2]at this;exact this⟩,(h.node x hx).lnk⟩
 have h3:YW f:=hi.led;obtain ⟨rk,hr⟩:=h.edge;have h4:Xd f:=fun x hx=>by
  have hl:=FsR.links hi hx;refine ⟨hl,?_⟩;by_cases h0:x.ino=1
  ·rw[if_pos h0,h0];exact ⟨by rw[Qn];exact hi.bare,(h.node x hx).top h0⟩
  ·rw[if_neg h0];have hk:=(h.node x hx).named h0;refine ⟨by omega,fun hd=>?_⟩;have ho:=(h.node x hx).one hd h0;refine ⟨by omega,(ze5 (by omega) fun q hq=>?_).symm⟩;obtain ⟨y,hy,e,he,q1,q2⟩:=VI.1 hq;have:=(hr y hy e he (by rw[q1,JF hi hx];exact hd)).1;rw[q1,JF hi hx]at this;rw[←q2,this]
 have h5:Zk f:=by
  have hS:YT f.xs [1]:=⟨by simp,fun n hn=>by rw[W0.1 hn];exact hi.root⟩;obtain ⟨r1,r2⟩:=Hz hi.led (f.xs.length+1) 0 [1] hS (fun j hj=>absurd hj (Oo _)) (by omega);have hok:=(Nm hi.led (f.xs.length+1) 0 [1] hS (fun n hn=>by rw[W0.1 hn];exact ⟨0,.root⟩)).1;have hall:=h.come hi (r1 1 (by simp)) r2;have q1:=Vn hok.nodup hok.has;have q2:=UT (S:=f.xs.map (·.ino)) (u6 hi.rises) fun n hn=>hall n (N8.2 hn);rw[We]at q2;exact Nat.le_antisymm q1 q2
 unfold JQ;rw[if_pos h1,if_pos h2,if_pos h3,if_pos h4,if_pos h5,if_pos (show Gb f from h.fit)]
open Classical in
theorem zfU (h:okM f):FsR f:=by
 obtain ⟨h0,h1,h2,h3,h4,h5,h6⟩:=qS h;have hi:=Vg h.2;refine ⟨fun x hx=>?_,?_,h6,h1.1,h1.2.1,h1.2.2.1,h1.2.2.2.1⟩
 ·obtain ⟨a1,a2,a3,a4⟩:=h2 x hx;obtain ⟨b1,b2⟩:=h4 x hx;refine ⟨fun hk=>(a2 hk).2,fun hk=>(a3 hk).1,fun e he=>?_,a4,fun hn=>?_,fun hk hn=>?_,fun hn=>?_⟩
  ·obtain ⟨i,hi',rfl⟩:=Wt he;exact ((a3 (Nx hi hx he)).2 i hi').1
  ·rw[if_neg hn]at b2;rw[b1];omega
  ·rw[if_neg hn]at b2;rw[b1,(b2.2 hk).1];rfl
  ·rw[if_pos hn]at b2;exact b2.2
 ·refine ⟨fun n=>if hd:∃ k,Dep f.xs k n then hd.choose else 0,fun y hy e he hk=>?_⟩;have hs:=JF hi hy;have hh:=hi.led y hy e he;have g:=zj hh;have hyk:=Nx hi hy he;have hey:e∈(zf y.ino f.xs).es:=by rw[hs];exact he
  have hne:e.ino≠1:=jQ h (Ji hy) hey;constructor
  ·have b:=(h4 _ g.2.1).2;rw[g.2.2,if_neg hne]at b;obtain ⟨c1,c2⟩:=b.2 hk;rw[c2];exact ze5 (by omega) fun q hq=>(ua (VI.2 ⟨y,hy,e,he,rfl,rfl⟩) hq c1).symm
  ·obtain ⟨k,hd⟩:=vb h (Ji hy);have hd2:=Dep.step hd (Ji hy) hey;have e1:∃ k,Dep f.xs k y.ino:=⟨k,hd⟩;have e2:∃ k,Dep f.xs k e.ino:=⟨k+1,hd2⟩;show (if hd:∃ k,Dep f.xs k y.ino then hd.choose else 0)<if hd:∃ k,Dep f.xs k e.ino then hd.choose else 0;rw[dif_pos e1,dif_pos e2,VH h _ _ _ e1.choose_spec hd (Ji hy) (by rw[hs];exact hyk),VH h _ _ _ e2.choose_spec hd2 hh hk];exact Nat.lt_succ_self k
end
section
def bN (x:zn):Nat:=if x.kind=1 then x.data.length else 0
theorem Jx:∀ xs:List zn,ql xs=GL bN xs
 | []=>rfl
 | x :: r=>by
  have ih:=Jx r;unfold ql GL at ih ⊢;rw[Wq,OY,←ih,O4];unfold bN;by_cases h:x.kind=1<;>simp[h]
theorem QK (hR:zW xs) {x:zn} (hh:zl x.ino xs=true):ql (qd x xs)+bN (zf x.ino xs)=ql xs+bN x:=by
 have:=UZ bN (x:=x) hR;rw[(zj hh).1]at this;rw[Jx,Jx];exact this
theorem HH (hR:zW xs) {x:zn} (hh:zl x.ino xs=false):ql (qd x xs)=ql xs+bN x:=by
 have:=UZ bN (x:=x) hR;rw[(JI hh).1]at this;rw[Jx,Jx];exact this
theorem zdl (hR:zW xs) (n:Int):ql (zY n xs)<=ql xs:=by
 have:=Xh bN (n:=n) hR;rw[Jx,Jx];omega
theorem YG (hR:zW xs) {n:Int} {F:List zN->List zN} (hh:zl n xs=true):ql (qe n F xs)=ql xs:=by
 have hg:=zj hh;have:=QK hR (x:=qh (zf n xs) (F (zf n xs).es)) (by show zl (zf n xs).ino xs=true;rw[hg.2.2];exact hh);have e:bN (zf (qh (zf n xs) (F (zf n xs).es)).ino xs)=bN (qh (zf n xs) (F (zf n xs).es)):=by
  show bN (zf (zf n xs).ino xs)=bN (zf n xs);rw[hg.2.2]
 rw[e]at this;exact Nat.add_right_cancel this
theorem znD (hR:zW xs) (hh:zl x.ino xs=false):(qd x xs).length=xs.length+1:=by rw[←ug hR hh];simp;have:=zfT x.ino xs;omega
theorem zge (n:Int) (xs:List zn):(zY n xs).length<=xs.length:=OI _ _
theorem zmj.turn (h:zmj x) {es:List zN} (he:∀ e∈es,may e.name=true):zmj (qh x es):=⟨h.par,h.bare,he,h.lnk,h.named,h.one,h.top⟩
theorem jN {m:Int} {F:List zN->List zN} (hh:zl n xs=true):(zf m (qe n F xs)).kind=(zf m xs).kind/\(zf m (qe n F xs)).parent=(zf m xs).parent/\(zf m (qe n F xs)).links=(zf m xs).links:=by
 rw[jk hh];split
 ·subst_vars;exact ⟨rfl,rfl,rfl⟩
 ·exact ⟨rfl,rfl,rfl⟩
theorem FsR.like {g:FsV} (h:FsR f) (hN:∀ z∈g.xs,zmj z) (hE:∀ z∈g.xs,∀ e∈z.es,(zf e.ino g.xs).kind=2->∃ y∈f.xs,y.ino=z.ino/\e∈y.es/\(zf e.ino f.xs).kind=2/\(zf e.ino g.xs).parent=(zf e.ino f.xs).parent)
  (h1:g.maxI=f.maxI) (h2:g.maxB=f.maxB) (hl:g.xs.length<=f.xs.length) (hb:(ql g.xs:Int)<=f.maxB):FsR g:=by
 obtain ⟨rk,hr⟩:=h.edge;refine ⟨hN,⟨rk,fun z hz e he hk=>?_⟩,?_,by rw[h1,h2];exact h.lim⟩
 ·obtain ⟨y,hy,q1,q2,q3,q4⟩:=hE z hz e he hk;have:=hr y hy e q2 q3;rw[q4,←q1];exact this
 ·have:=h.fit;rw[h1,h2];omega
theorem zso (hi:FsI f) (h:FsR f) {s:zB} (hs:qX f s) (hm:may s.name=true) {k:Int} {t:Lz} (hk:k=1∨k=2∨k=3) (hr:YN f 1 (if k=1 then (t.length:Int) else 0)=true) (h2:k=2->t = [])
  (h3:k=3->1<=t.length/\t.length<=4095/\∀ b∈t,b≠0):FsR (zdz f s k t):=by
 obtain ⟨n1,n2⟩:=Mq hi;have hd:=zj hs.has;have hlt:=uC hi;have hdn:s.dir≠f.next:=fun e=>by have:=hs.has;rw[e,n1]at this;cases this
 have hR1:zW (qe s.dir (zQ s.name f.next) f.xs):=zO hi.rises;have hn1:zl f.next (qe s.dir (zQ s.name f.next) f.xs)=false:=by rw[zM hs.has];exact n1
 obtain ⟨rk,hrk⟩:=h.edge;have hmem:∀ {z:zn},z∈(zdz f s k t).xs->z=⟨f.next,k,1,t,if k=2 then s.dir else 0,[]⟩∨z=qh (zf s.dir f.xs) (zQ s.name f.next (zf s.dir f.xs).es)∨(z∈f.xs/\z.ino≠s.dir):=fun {z} hz=>by
  rcases qo.1 hz with rfl | ⟨hz,_⟩
  ·exact .inl rfl
  ·exact .inr ((qD hs.has).1 hz)
 have hgot:∀ m,m≠f.next->(zf m (zdz f s k t).xs).kind=(zf m f.xs).kind/\(zf m (zdz f s k t).xs).parent=(zf m f.xs).parent:=fun m hm=>by
  have e:zf m (zdz f s k t).xs=zf m (qe s.dir (zQ s.name f.next) f.xs):=by
   show zf m (qd _ _)=_;rw[qq,if_neg (fun e:f.next=m=>hm e.symm)]
  rw[e];exact ⟨(jN hs.has).1,(jN hs.has).2.1⟩
 have hgn:zf f.next (zdz f s k t).xs=⟨f.next,k,1,t,if k=2 then s.dir else 0,[]⟩:=by
  show zf _ (qd _ _)=_;rw[qq,if_pos rfl]
 refine ⟨fun z hz=>?_,⟨fun n=>if n=f.next then rk s.dir+1 else rk n,fun y hy e he hke=>?_⟩,?_,h.lim⟩
 ·rcases hmem hz with rfl | rfl | ⟨hz,_⟩
  ·exact ⟨fun q=>if_neg q,h2,fun e he=>(by cases he),h3,fun _=>O0 1,fun _ _=>rfl,fun q=>by have q:f.next=1:=q;omega⟩
  ·exact (h.node _ hd.2.1).turn fun e he=>by
    rcases Ys he with rfl | he
    ·exact hm
    ·exact (h.node _ hd.2.1).nam e he
  ·exact h.node z hz
 ·have old:∀ y0∈f.xs,e∈y0.es->(zf e.ino (zdz f s k t).xs).parent=y0.ino/\(if y0.ino=f.next then rk s.dir+1 else rk y0.ino)<(if e.ino=f.next then rk s.dir+1 else rk e.ino):=fun y0 hy0 he0=>by
   have hne:=n2 y0 hy0 e he0;obtain ⟨g1,g2⟩:=hgot e.ino hne;rw[g1]at hke;have:=hrk y0 hy0 e he0 hke;rw[g2,if_neg hne,if_neg (fun q=>by have:=(hi.ino y0 hy0).2;omega)];exact this
  rcases hmem hy with rfl | rfl | ⟨hy,_⟩
  ·cases he
  ·rcases Ys he with rfl | he
   ·rw[hgn]at hke ⊢;have hke:k=2:=hke;show (if k=2 then s.dir else 0)=(zf s.dir f.xs).ino/\_;rw[if_pos hke,hd.2.2];refine ⟨rfl,?_⟩;show (if s.dir=f.next then _ else rk s.dir)<if f.next=f.next then _ else _;rw[if_neg hdn,if_pos rfl];exact Nat.lt_succ_self _
   ·exact old (zf s.dir f.xs) hd.2.1 he
  ·exact old y hy he
 ·unfold YN at hr;simp only[Wp,WW]at hr;have hl:(zdz f s k t).xs.length=f.xs.length+1:=by
   show (qd _ _).length=_;rw[znD hR1 hn1,qV hi.rises hs.has]
  have hb:ql (zdz f s k t).xs=ql f.xs+bN ⟨f.next,k,1,t,if k=2 then s.dir else 0,[]⟩:=by
   show ql (qd _ _)=_;rw[HH hR1 hn1,YG hi.rises hs.has]
  rw[hl,hb];show ((f.xs.length+1:Nat):Int)<=f.maxI/\((ql f.xs+(if k=1 then t.length else 0):Nat):Int)<=f.maxB;split at hr<;>(rename_i hq;simp only[hq,if_true,Oh];omega)
theorem zqz (hi:FsI f) (h:FsR f) {i:Int} (hh:zl i f.xs=true) (hk:(zf i f.xs).kind=1) {t:Lz} (hr:YN f 0 ((t.length:Int)-(zf i f.xs).data.length)=true):FsR (X9 f i t):=by
 have hx:=zj hh;have hhi:zl ({ zf i f.xs with data:=t }:zn).ino f.xs=true:=by show zl (zf i f.xs).ino f.xs=true;rw[hx.2.2];exact hh
 have hn:=h.node _ hx.2.1;have hgot:∀ m,(zf m (X9 f i t).xs).kind=(zf m f.xs).kind/\(zf m (X9 f i t).xs).parent=(zf m f.xs).parent:=fun m=>by
  show (zf m (qd _ _)).kind=_/\_;unfold X9;simp only[qq,hx.2.2];split
  ·subst_vars;exact ⟨rfl,rfl⟩
  ·exact ⟨rfl,rfl⟩
 unfold YN at hr;simp only[Wp,WW]at hr;refine h.like (fun z hz=>?_) (fun z hz e he hke=>?_) rfl rfl ?_ ?_
 ·rcases qo.1 hz with rfl | ⟨hz,_⟩
  ·exact ⟨hn.par,fun q=>by have q:(zf i f.xs).kind=2:=q;omega,hn.nam,fun q=>by have q:(zf i f.xs).kind=3:=q;omega,hn.named,hn.one,hn.top⟩
  ·exact h.node z hz
 ·rw[(hgot _).1]at hke;rcases qo.1 hz with rfl | ⟨hz,_⟩
  ·exact ⟨_,hx.2.1,rfl,he,hke,(hgot _).2⟩
  ·exact ⟨z,hz,rfl,he,hke,(hgot _).2⟩
 ·show (qd _ _).length<=_;rw[Jy hi.rises hhi];exact Wc _
 ·have:=QK hi.rises hhi;have e1:bN (zf ({ zf i f.xs with data:=t }:zn).ino f.xs)=(zf i f.xs).data.length:=by
   show bN (zf (zf i f.xs).ino f.xs)=_;rw[hx.2.2];unfold bN;rw[if_pos hk]
  have e2:bN { zf i f.xs with data:=t }=t.length:=by unfold bN;rw[if_pos hk]
  rw[e1,e2]at this;show (ql (qd _ _):Int)<=_;omega
theorem zqO (hi:FsI f) (h:FsR f) {s:zB} (hs:qX f s) (hm:may s.name=true) {i:Int} (hh:zl i f.xs=true) (hk:(zf i f.xs).kind≠2):FsR (Xb f s i):=by
 have hd:=zj hs.has;have hx:=zj hh;have hn:=h.node _ hx.2.1;have hR1:zW (qe s.dir (zQ s.name i) f.xs):=zO hi.rises;have hhi:zl ({ zf i f.xs with links:=(zf i f.xs).links+1 }:zn).ino (qe s.dir (zQ s.name i) f.xs)=true:=by rw[zM hs.has];show zl (zf i f.xs).ino f.xs=true;rw[hx.2.2];exact hh
 have hgot:∀ m,(zf m (Xb f s i).xs).kind=(zf m f.xs).kind/\(zf m (Xb f s i).xs).parent=(zf m f.xs).parent:=fun m=>by
  unfold Xb;simp only[qq,hx.2.2];split
  ·subst_vars;exact ⟨rfl,rfl⟩
  ·exact ⟨(jN hs.has).1,(jN hs.has).2.1⟩
 refine h.like (fun z hz=>?_) (fun z hz e he hke=>?_) rfl rfl ?_ ?_
 ·rcases qo.1 hz with rfl | ⟨hz,_⟩
  ·exact ⟨hn.par,hn.bare,hn.nam,hn.lnk,fun q=>by have:=hn.named q;show 1<=(zf i f.xs).links+1;omega,fun q=>absurd q hk,hn.top⟩
  ·rcases (qD hs.has).1 hz with rfl | ⟨hz,_⟩
   ·exact (h.node _ hd.2.1).turn fun e he=>by
     rcases Ys he with rfl | he
     ·exact hm
     ·exact (h.node _ hd.2.1).nam e he
   ·exact h.node z hz
 ·rw[(hgot _).1]at hke;rcases qo.1 hz with rfl | ⟨hz,_⟩
  ·exact ⟨_,hx.2.1,rfl,he,hke,(hgot _).2⟩
  ·rcases (qD hs.has).1 hz with rfl | ⟨hz,_⟩
   ·rcases Ys he with rfl | he
    ·exact absurd hke hk
    ·exact ⟨_,hd.2.1,rfl,he,hke,(hgot _).2⟩
   ·exact ⟨z,hz,rfl,he,hke,(hgot _).2⟩
 ·show (qd _ _).length<=_;rw[Jy hR1 hhi,qV hi.rises hs.has];exact Wc _
 ·have:=QK hR1 hhi;have e1:bN (zf ({ zf i f.xs with links:=(zf i f.xs).links+1 }:zn).ino (qe s.dir (zQ s.name i) f.xs))=bN { zf i f.xs with links:=(zf i f.xs).links+1 }:=by
   show bN (zf (zf i f.xs).ino _)=_;rw[hx.2.2,jk hs.has];split
   ·rename_i hq;exact absurd (by rw[←hq];exact hs.kind) hk
   ·rfl
  rw[e1,YG hi.rises hs.has]at this;show (ql (qd _ _):Int)<=_;have:=h.fit.2;omega
theorem ziK (hi:FsI f) (h:FsR f) {s:zB} (hs:zm f s) (he:(zf s.ino f.xs).es = []):FsR (zk f s):=by
 have hok:=HO hi hs he;have hd:=zj hs.has;have hh:=zm.ino hi hs;have hx:=zj hh;have hn:=h.node _ hx.2.1;have hne:s.dir≠s.ino:=fun e=>by
  have:=(zK hs.there).2;rw[e,he]at this;cases this
 have hr1:=Xl hi hs;have hR1:zW (qe s.dir (zg s.name) f.xs):=zO hi.rises;have hdn:zmj (qh (zf s.dir f.xs) (zg s.name (zf s.dir f.xs).es)):=(h.node _ hd.2.1).turn fun e he=>(h.node _ hd.2.1).nam e (qK he).1;by_cases hl:(zf s.ino f.xs).links-1=0
 ·have e0:zk f s = { f with xs:=zY s.ino (qe s.dir (zg s.name) f.xs) }:=by unfold zk;rw[if_pos hl]
  rw[e0]at hok ⊢;refine h.like (fun z hz=>?_) (fun z hz e he hke=>?_) rfl rfl ?_ ?_
  ·rcases (qD hs.has).1 (J3.1 hz).1 with rfl | ⟨hz,_⟩
   ·exact hdn
   ·exact h.node z hz
  ·have hee:e.ino≠s.ino:=fun q=>by
    have:=hok.led z hz e he;rw[J2,q]at this;simp at this
   have hg:zf e.ino (zY s.ino (qe s.dir (zg s.name) f.xs))=zf e.ino (qe s.dir (zg s.name) f.xs):=by rw[QJ,if_neg hee]
   show ∃ y∈f.xs,y.ino=z.ino/\e∈y.es/\_/\(zf e.ino (zY s.ino _)).parent=_;have hke:(zf e.ino (zY s.ino (qe s.dir (zg s.name) f.xs))).kind=2:=hke;rw[hg,(jN hs.has).1]at hke;rw[hg,(jN hs.has).2.1];rcases (qD hs.has).1 (J3.1 hz).1 with rfl | ⟨hz,_⟩
   ·exact ⟨_,hd.2.1,rfl,(qK he).1,hke,rfl⟩
   ·exact ⟨z,hz,rfl,he,hke,rfl⟩
  ·exact WJ (zge _ _) (by rw[qV hi.rises hs.has];exact Wc _)
  ·have:=zdl hR1 s.ino;rw[YG hi.rises hs.has]at this;have:=h.fit.2;show (ql (zY _ _):Int)<=_;omega
 ·have e0:zk f s = { f with xs:=qd { zf s.ino f.xs with links:=(zf s.ino f.xs).links-1 } (qe s.dir (zg s.name) f.xs) }:=by unfold zk;rw[if_neg hl]
  rw[e0]at hok ⊢;have hhi:zl ({ zf s.ino f.xs with links:=(zf s.ino f.xs).links-1 }:zn).ino (qe s.dir (zg s.name) f.xs)=true:=by rw[zM hs.has];show zl (zf s.ino f.xs).ino f.xs=true;rw[hx.2.2];exact hh
  have hgot:∀ m,(zf m (qd { zf s.ino f.xs with links:=(zf s.ino f.xs).links-1 } (qe s.dir (zg s.name) f.xs))).kind=(zf m f.xs).kind/\(zf m (qd { zf s.ino f.xs with links:=(zf s.ino f.xs).links-1 } (qe s.dir (zg s.name) f.xs))).parent=(zf m f.xs).parent:=fun m=>by
   simp only[qq,hx.2.2];split
   ·subst_vars;exact ⟨rfl,rfl⟩
   ·exact ⟨(jN hs.has).1,(jN hs.has).2.1⟩
  have hnm:=hn.named (by rw[hx.2.2];exact hr1);refine h.like (fun z hz=>?_) (fun z hz e he hke=>?_) rfl rfl ?_ ?_
  ·rcases qo.1 hz with rfl | ⟨hz,_⟩
   ·exact ⟨hn.par,hn.bare,hn.nam,hn.lnk,fun q=>by show 1<=(zf s.ino f.xs).links-1;omega,fun q1 q2=>by have:=hn.one q1 q2;omega,hn.top⟩
   ·rcases (qD hs.has).1 hz with rfl | ⟨hz,_⟩
    ·exact hdn
    ·exact h.node z hz
  ·have hke:(zf e.ino (qd { zf s.ino f.xs with links:=(zf s.ino f.xs).links-1 } (qe s.dir (zg s.name) f.xs))).kind=2:=hke;rw[(hgot _).1]at hke;rcases qo.1 hz with rfl | ⟨hz,_⟩
   ·exact ⟨_,hx.2.1,rfl,he,hke,(hgot _).2⟩
   ·rcases (qD hs.has).1 hz with rfl | ⟨hz,_⟩
    ·exact ⟨_,hd.2.1,rfl,(qK he).1,hke,(hgot _).2⟩
    ·exact ⟨z,hz,rfl,he,hke,(hgot _).2⟩
  ·show (qd _ _).length<=_;rw[Jy hR1 hhi,qV hi.rises hs.has];exact Wc _
  ·have:=QK hR1 hhi;have e1:bN (zf ({ zf s.ino f.xs with links:=(zf s.ino f.xs).links-1 }:zn).ino (qe s.dir (zg s.name) f.xs))=bN { zf s.ino f.xs with links:=(zf s.ino f.xs).links-1 }:=by
    show bN (zf (zf s.ino f.xs).ino _)=_;rw[hx.2.2,jk hs.has,if_neg hne]
    rfl
   rw[e1,YG hi.rises hs.has]at this;show (ql (qd _ _):Int)<=_;have:=h.fit.2;omega
end
section
inductive Bel (xs:List zn) (x:Int):Int->Prop
 | refl:Bel xs x x
 | step {y n:Int}:Bel xs x y->zl y xs=true->(∃ e∈(zf y xs).es,e.ino=n)->Bel xs x n
def zsB (a b:zB) (y:zn) (es:List zN):Prop:=∀ e∈es,(e=⟨b.name,a.ino⟩/\y.ino=b.dir)∨(e∈y.es/\(y.ino=a.dir->e.name≠a.name))
theorem zoX (hi:FsI f) {a b:zB} (ha:zm f a) (hb:qX f b) {z:zn} (hz:z∈qe b.dir (zQ b.name a.ino) (qe a.dir (zg a.name) f.xs)):∃ y∈f.xs,∃ es,z=qh y es/\zsB a b y es:=by
 have hda:=zj ha.has;have hdb:=zj hb.has;have hb1:zl b.dir (qe a.dir (zg a.name) f.xs)=true:=by rw[zM ha.has];exact hb.has
 have g1:∀ {z:zn},z∈qe a.dir (zg a.name) f.xs->∃ y∈f.xs,∃ es,z=qh y es/\∀ e∈es,e∈y.es/\(y.ino=a.dir->e.name≠a.name):=fun {z} hz=>by
  rcases (qD ha.has).1 hz with rfl | ⟨hz,hne⟩
  ·exact ⟨_,hda.2.1,_,rfl,fun e he=>⟨(qK he).1,fun _=>(qK he).2⟩⟩
  ·exact ⟨z,hz,z.es,rfl,fun e he=>⟨he,fun q=>absurd q hne⟩⟩
 rcases (qD hb1).1 hz with rfl | ⟨hz,hne⟩
 ·obtain ⟨y,hy,es,e1,e2⟩:=g1 (zj hb1).2.1;have hyb:y.ino=b.dir:=by
   have:=(zj hb1).2.2;rw[e1]at this;exact this
  refine ⟨y,hy,zQ b.name a.ino es,by rw[e1],fun e he=>?_⟩;rcases Ys he with rfl | he
  ·exact .inl ⟨rfl,hyb⟩
  ·exact .inr (e2 e he)
 ·obtain ⟨y,hy,es,e1,e2⟩:=g1 hz;exact ⟨y,hy,es,e1,fun e he=>.inr (e2 e he)⟩
theorem vF (ha:zm f a) (hb:qX f b) (m:Int):(zf m (qe b.dir (zQ b.name a.ino) (qe a.dir (zg a.name) f.xs))).kind=(zf m f.xs).kind/\(zf m (qe b.dir (zQ b.name a.ino) (qe a.dir (zg a.name) f.xs))).parent=(zf m f.xs).parent:=by
 have hb1:zl b.dir (qe a.dir (zg a.name) f.xs)=true:=by rw[zM ha.has];exact hb.has
 obtain ⟨q1,q2,_⟩:=jN (m:=m) (F:=zQ b.name a.ino) hb1;obtain ⟨q3,q4,_⟩:=jN (m:=m) (F:=zg a.name) ha.has;exact ⟨q1.trans q3,q2.trans q4⟩
theorem zbA (hi:FsI f) (h:FsR f) {a:zB} (ha:zm f a) (hk:(zf a.ino f.xs).kind=2) {y:zn} (hy:y∈f.xs) {e:zN} (he:e∈y.es) (hn:y.ino=a.dir->e.name≠a.name):e.ino≠a.ino:=fun q=>by
 have hh:=zm.ino hi ha;have hx:=zj hh;have hd:=zj ha.has;have hl:=(h.node _ hx.2.1).one hk (by rw[hx.2.2];exact Xl hi ha);have hlk:=hi.links _ hx.2.1;rw[hx.2.2,hl]at hlk;have hc:=Zr (m:=a.ino) (F:=zg a.name) hi.rises ha.has;have hw:Yk a.ino (zf a.dir f.xs)=Yk a.ino (qh (zf a.dir f.xs) (zg a.name (zf a.dir f.xs).es))+if a.ino=a.ino then 1 else 0:=Qu (m:=a.ino) (i:=a.ino) (x:=zf a.dir f.xs) (hi.es (zf a.dir f.xs) hd.2.1) ha.there;rw[if_pos rfl]at hw;have h0:Yh a.ino (qe a.dir (zg a.name) f.xs)=0:=by omega
 by_cases hya:y.ino=a.dir
 ·have e1:y=zf a.dir f.xs:=kz hi.rises hy hd.2.1 (by rw[hd.2.2];exact hya);refine Vo h0 _ ((qD ha.has).2 (.inl rfl)) e ?_ q;exact QI.2 ⟨by rw[←e1];exact he,hn hya⟩
 ·exact Vo h0 y ((qD ha.has).2 (.inr ⟨hy,hya⟩)) e he q
open Classical in
theorem zpR (hi:FsI f) (h:FsR f) {a b:zB} (ha:zm f a) (hb:qX f b) (hm:may b.name=true) (hnb:(zf a.ino f.xs).kind=2->¬Bel f.xs a.ino b.dir):FsR (qn f a b):=by
 have hh:=zm.ino hi ha;have hx:=zj hh;have hr1:=Xl hi ha;have hb1:zl b.dir (qe a.dir (zg a.name) f.xs)=true:=by rw[zM ha.has];exact hb.has
 have hR1:zW (qe a.dir (zg a.name) f.xs):=zO hi.rises;have hR2:zW (qe b.dir (zQ b.name a.ino) (qe a.dir (zg a.name) f.xs)):=zO hR1;have hlen:(qe b.dir (zQ b.name a.ino) (qe a.dir (zg a.name) f.xs)).length=f.xs.length:=by rw[qV hR1 hb1,qV hi.rises ha.has]
 have hbyt:ql (qe b.dir (zQ b.name a.ino) (qe a.dir (zg a.name) f.xs))=ql f.xs:=by rw[YG hR1 hb1,YG hi.rises ha.has]
 have hha:zl a.ino (qe b.dir (zQ b.name a.ino) (qe a.dir (zg a.name) f.xs))=true:=by rw[zM hb1,zM ha.has];exact hh
 have hgm:=vF ha hb;have hmm:∀ {z:zn},z∈qe b.dir (zQ b.name a.ino) (qe a.dir (zg a.name) f.xs)->∃ y∈f.xs,∃ es,z=qh y es/\zsB a b y es:=zoX hi ha hb;have hnode:∀ {y:zn} {es:List zN},y∈f.xs->zsB a b y es->zmj (qh y es):=fun {y es} hy he=>(h.node y hy).turn fun e hee=>by
  rcases he e hee with ⟨rfl,_⟩ | ⟨q,_⟩
  ·exact hm
  ·exact (h.node y hy).nam e q
 unfold qn;simp only;generalize qe b.dir (zQ b.name a.ino) (qe a.dir (zg a.name) f.xs)=g at hR2 hlen hbyt hha hgm hmm;have hfit:=h.fit;by_cases hk:(zf a.ino f.xs).kind=2
 ·rw[if_pos (show (zf a.ino g).kind=2 from (hgm a.ino).1.trans hk)];have hnb:=hnb hk;have hxa:=zj hha;have hhi:zl ({ zf a.ino g with parent:=b.dir }:zn).ino g=true:=by show zl (zf a.ino g).ino g=true;rw[hxa.2.2];exact hha
  have hgot:∀ m,(zf m (qd { zf a.ino g with parent:=b.dir } g)).kind=(zf m f.xs).kind/\(zf m (qd { zf a.ino g with parent:=b.dir } g)).parent=if m=a.ino then b.dir else (zf m f.xs).parent:=fun m=>by
   simp only[qq,hxa.2.2];by_cases hq:a.ino=m
   ·rw[if_pos hq,if_pos hq.symm];subst hq;exact ⟨(hgm a.ino).1,rfl⟩
   ·rw[if_neg hq,if_neg (fun q=>hq q.symm)];exact hgm m
  have hmem:∀ {z:zn},z∈qd { zf a.ino g with parent:=b.dir } g->∃ y∈f.xs,∃ es,z.ino=y.ino/\z.es=es/\zsB a b y es/\zmj z:=fun {z} hz=>by
   rcases qo.1 hz with rfl | ⟨hz,_⟩
   ·obtain ⟨y,hy,es,e1,e2⟩:=hmm hxa.2.1;refine ⟨y,hy,es,by rw[e1],by rw[e1],e2,?_⟩;have hn:=hnode hy e2;rw[←e1]at hn;have hka:(zf a.ino g).kind=2:=by rw[(hgm a.ino).1];exact hk
    exact ⟨fun q=>absurd hka q,hn.bare,hn.nam,hn.lnk,hn.named,hn.one,fun q=>by have q:(zf a.ino g).ino=1:=q;rw[hxa.2.2]at q;exact absurd q hr1⟩
   ·obtain ⟨y,hy,es,e1,e2⟩:=hmm hz;exact ⟨y,hy,es,by rw[e1],by rw[e1],e2,by rw[e1];exact hnode hy e2⟩
  obtain ⟨rk,hrk⟩:=h.edge;refine ⟨fun z hz=>(hmem hz).choose_spec.2.choose_spec.2.2.2,⟨fun n=>if Bel f.xs a.ino n then rk n+rk b.dir+1 else rk n,fun z hz e he hke=>?_⟩,?_,h.lim⟩
  ·obtain ⟨y,hy,es,e1,e2,e3,_⟩:=hmem hz;have hke:(zf e.ino (qd { zf a.ino g with parent:=b.dir } g)).kind=2:=hke;rw[(hgot _).1]at hke;show (zf e.ino (qd { zf a.ino g with parent:=b.dir } g)).parent=z.ino/\(if Bel f.xs a.ino z.ino then _ else _)<(if Bel f.xs a.ino e.ino then _ else _);rw[(hgot _).2,e1];rcases e3 e (by rw[←e2];exact he) with ⟨rfl,hyb⟩ | ⟨hey,hna⟩
   ·rw[hyb,if_neg hnb];show (if a.ino=a.ino then _ else _)=_/\_<(if Bel f.xs a.ino a.ino then rk a.ino+rk b.dir+1 else _);rw[if_pos rfl,if_pos Bel.refl];exact ⟨rfl,by omega⟩
   ·have hne:=zbA hi h ha hk hy hey hna;obtain ⟨p1,p2⟩:=hrk y hy e hey hke;rw[if_neg hne];refine ⟨p1,?_⟩;have hs:=JF hi hy;have hiff:Bel f.xs a.ino e.ino↔Bel f.xs a.ino y.ino:=by
     constructor
     ·intro hB;generalize hn:e.ino=n at hB;cases hB with
      | refl=>exact absurd hn hne
      | step hB1 hv hed =>
       rename_i y';obtain ⟨e',he',q⟩:=hed;have:=(hrk _ (zj hv).2.1 e' he' (by rw[q,←hn];exact hke)).1;rw[q,←hn,p1,(zj hv).2.2]at this;rw[this];exact hB1
     ·intro hB;exact .step hB (Ji hy) ⟨e,by rw[hs];exact hey,rfl⟩
    by_cases hB:Bel f.xs a.ino y.ino
    ·rw[if_pos hB,if_pos (hiff.2 hB)];omega
    ·rw[if_neg hB,if_neg (fun q=>hB (hiff.1 q))];exact p2
  ·have hb2:=QK hR2 hhi;have e1:bN (zf ({ zf a.ino g with parent:=b.dir }:zn).ino g)=bN { zf a.ino g with parent:=b.dir }:=by
    show bN (zf (zf a.ino g).ino g)=_;rw[hxa.2.2];rfl
   rw[e1]at hb2;have hb3:=Nat.add_right_cancel hb2;show ((qd _ _).length:Int)<=f.maxI/\(ql (qd _ _):Int)<=f.maxB;rw[Jy hR2 hhi,hlen,hb3,hbyt];exact hfit
 ·rw[if_neg (show ¬(zf a.ino g).kind=2 from fun q=>hk ((hgm a.ino).1.symm.trans q))];refine h.like (fun z hz=>?_) (fun z hz e he hke=>?_) rfl rfl (by show g.length<=_;omega) (by show (ql g:Int)<=_;omega)
  ·obtain ⟨y,hy,es,rfl,e2⟩:=hmm hz;exact hnode hy e2
  ·obtain ⟨y,hy,es,rfl,e2⟩:=hmm hz;have hke:(zf e.ino g).kind=2:=hke;rw[(hgm _).1]at hke;rcases e2 e he with ⟨rfl,_⟩ | ⟨q,_⟩
   ·exact absurd hke hk
   ·exact ⟨y,hy,rfl,q,hke,(hgm _).2⟩
end
section
inductive YS (xs:List zn):List Lz->Int->Prop
 | root:YS xs [] 1
 | step {ns:List Lz} {y n:Int} {m:Lz}:YS xs ns y->zl y xs=true->(zf y xs).kind=2->qz zN.name m (zf y xs).es=some ⟨m,n⟩->YS xs (ns++[m]) n
theorem YS.inv (h:YS xs ns n):(ns = []/\n=1)∨∃ ms y m,ns=ms++[m]/\YS xs ms y/\zl y xs=true/\(zf y xs).kind=2/\qz zN.name m (zf y xs).es=some ⟨m,n⟩:=by
 cases h with
 | root=>exact .inl ⟨rfl,rfl⟩
 | step h1 h2 h3 h4=>exact .inr ⟨_,_,_,rfl,h1,h2,h3,h4⟩
theorem xt (hi:FsI f) (h:FsR f) {x y z:Int} {m k:Lz} (hx:(zf x f.xs).kind=2) (hy:zl y f.xs=true) (hyk:(zf y f.xs).kind=2) (h1:qz zN.name m (zf y f.xs).es=some ⟨m,x⟩) (hz:zl z f.xs=true) (h2:∃ e∈(zf z f.xs).es,e.name=k/\e.ino=x):z=y/\k=m:=by
 obtain ⟨e,he,rfl,q⟩:=h2;obtain ⟨rk,hr⟩:=h.edge;have gy:=zj hy;have gz:=zj hz;have p1:=(hr _ gy.2.1 ⟨m,x⟩ (zK h1).2 hx).1;have p2:=(hr _ gz.2.1 e he (by rw[q];exact hx)).1;rw[q,gz.2.2]at p2;rw[gy.2.2]at p1;have hzy:z=y:=p2.symm.trans p1;refine ⟨hzy,OM fun hne=>?_⟩;subst hzy;exact zbA hi h (a:=⟨z,m,x⟩) ⟨hy,hyk,h1⟩ hx gy.2.1 he (fun _=>hne) q
theorem uq (hi:FsI f) {y:Int} (hy:zl y f.xs=true) {e:zN} (he:e∈(zf y f.xs).es):e.ino≠1:=Vo hi.bare _ (zj hy).2.1 e he
theorem YS.one (hi:FsI f) (h:FsR f):∀ {ms ns:List Lz} {x:Int},YS f.xs ms x->YS f.xs ns x->(zf x f.xs).kind=2->ms=ns:=by
 intro ms ns x h1
 induction h1 generalizing ns with
 | root =>
  intro h2 hk;rcases h2.inv with ⟨e,_⟩ | ⟨ms,y,m,e,_,g1,g2,g3⟩
  ·exact e.symm
  ·exact absurd rfl (uq hi g1 (zK g3).2)
 | step a1 a2 a3 a4 ih =>
  intro h2 hk;rcases h2.inv with ⟨e,e1⟩ | ⟨ms,y,m,rfl,g0,g1,g2,g3⟩
  ·exact absurd e1 (uq hi a2 (zK a4).2)
  ·obtain ⟨rfl,rfl⟩:=xt hi h hk a2 a3 a4 g1 ⟨_,(zK g3).2,rfl,rfl⟩;rw[ih g0 a3]
theorem Bel.lead (hi:FsI f) (h:FsR f) {x:Int} {ns:List Lz} (hn:YS f.xs ns x):∀ {m:Int} {ms:List Lz},Bel f.xs x m->YS f.xs ms m->(zf m f.xs).kind=2->∃ r,ms=ns++r:=by
 intro m ms hB
 induction hB generalizing ms with
 | refl=>intro h1 hk;exact ⟨[],by rw[W2];exact YS.one hi h h1 hn hk⟩
 | step b1 b2 b3 ih =>
  intro h1 hk;obtain ⟨e,he,q⟩:=b3;rcases h1.inv with ⟨_,e1⟩ | ⟨ms',y',k,rfl,g0,g1,g2,g3⟩
  ·exact absurd (q.trans e1) (uq hi b2 he)
  ·obtain ⟨rfl,_⟩:=xt hi h hk g1 g2 g3 b2 ⟨e,he,rfl,q⟩;obtain ⟨r,hr⟩:=ih g0 g2;exact ⟨r++[k],by rw[hr,WH]⟩
theorem Vh {f:FsV} (hi:FsI f):∀ (ns pre:List Lz) (s:zB),(s.ino≠0->YS f.xs pre s.ino/\zl s.ino f.xs=true)->(atW f.xs ns s).2=0->ns≠[] ->
  ∃ ms,ns=ms++[(atW f.xs ns s).1.name]/\YS f.xs (pre++ms) (atW f.xs ns s).1.dir
 | [],pre,s,_,_,h=>absurd rfl h
 | n :: r,pre,s,hs,h0,_=>by
  unfold atW at h0 ⊢;by_cases h1:s.ino=0
  ·rw[if_pos h1]at h0;cases h0
  rw[if_neg h1]at h0 ⊢;by_cases h2:(zf s.ino f.xs).kind≠2
  ·rw[if_pos h2]at h0;cases h0
  rw[if_neg h2]at h0 ⊢;have h2:(zf s.ino f.xs).kind=2:=WB.1 h2;obtain ⟨g1,g2⟩:=hs h1;have hg:=zj g2;cases r with
  | nil =>
   unfold atW;refine ⟨[],rfl,?_⟩;rw[W2];show YS f.xs pre (zf s.ino f.xs).ino;rw[hg.2.2];exact g1
  | cons m r =>
   obtain ⟨ms,e1,e2⟩:=Vh hi (m :: r) (pre++[n]) ⟨(zf s.ino f.xs).ino,n,zT n (zf s.ino f.xs).es⟩ (fun hne=>by
    have hne:zT n (zf s.ino f.xs).es≠0:=hne;have hh:Yj n (zf s.ino f.xs).es=true:=by
     unfold Yj;rw[qg];cases hq:qz zN.name n (zf s.ino f.xs).es with
     | some e=>rfl
     | none=>unfold zT at hne;rw[hq]at hne;exact absurd rfl hne
    exact ⟨.step g1 g2 h2 (Yo hh),ZF hi g2 hh⟩) h0 (by simp)
   refine ⟨n :: ms,by rw[Of,←e1],?_⟩;rw[WH]at e2;exact e2
theorem zgc (hi:FsI f) (h:FsR f) {p q:Lz} (hp:z8 p=true) (hq:z8 q=true) (h1:(isV f p true).2.2=0) (h2:(isV f q false).2.2=0) (hu:Jf q p=false) (hk:(zf (isV f p true).1.ino f.xs).kind=2):¬Bel f.xs (isV f p true).1.ino (isV f q false).1.dir:=fun hB=>by
 have hta:=(j5 hi hp h1).1;have hfb:=Yz hi hq h2;unfold z8 at hp hq;simp only[Wp,OQ,Ok]at hp hq;have root:(1:Int)≠0->YS f.xs [] 1/\zl 1 f.xs=true:=fun _=>⟨.root,hi.root⟩;have ea:(isV f p true).1=(atW f.xs (zp p) ⟨0,[],1⟩).1:=by show (atV f p).1=_;unfold atV;rw[if_pos hp.1]
 have eb:(isV f q false).1=(atW f.xs (zp q) ⟨0,[],1⟩).1:=by show (atV f q).1=_;unfold atV;rw[if_pos hq.1]
 have za:(atW f.xs (zp p) ⟨0,[],1⟩).2=0:=by have:=V2 h1;unfold atV at this;rwa [if_pos hp.1]at this
 have zb:(atW f.xs (zp q) ⟨0,[],1⟩).2=0:=by have:=V2 h2;unfold atV at this;rwa [if_pos hq.1]at this
 obtain ⟨ma,a1,a2⟩:=Vh hi (zp p) [] ⟨0,[],1⟩ root za hp.2;obtain ⟨mb,b1,b2⟩:=Vh hi (zp q) [] ⟨0,[],1⟩ root zb hq.2;rw[←ea]at a1 a2;rw[←eb]at b1 b2;have la:YS f.xs (zp p) (isV f p true).1.ino:=by
  rw[a1];exact .step a2 hta.has hta.kind hta.there
 obtain ⟨r,hr⟩:=Bel.lead hi h la hB b2 hfb.kind;have hr:mb=zp p++r:=hr;have hn:zp q=zp p++(r++[(isV f q false).1.name]):=by rw[b1,hr,WH]
 have hu2:=XW (zp q) (zp p) (fun x hx=>Va hx) (fun x hx=>Va hx);rw[JU hp.1,JU hq.1,hu,hn,OK  rfl]at hu2;simp at hu2
end
section
structure yP (w:qj):Prop where
 fs:FsR w.fs
 pool:∀ x∈w.pool,qI w x
 slots:∀ k∈w.kept,1<=k.slot
 kept:∀ k∈w.kept,X3 w k
theorem ztp (h:okW w):yP w:=⟨zfU (okV.m ⟨h.1.2.1,h.2.1⟩),h.2.2.2.1,h.2.2.2.2.1.2,h.2.2.2.2.2⟩
theorem zsW (h:yP w) {g:FsV} (hg:FsR g) (hn:w.fs.next<=g.next) (hp:∀ x∈w.pool,zl x.ino g.xs=false) (hk:∀ m,zl m w.fs.xs=true->zl m g.xs=true/\(zf m g.xs).kind=(zf m w.fs.xs).kind):yP { w with fs:=g }:=by
 refine ⟨hg,fun x hx=>?_,h.slots,fun k hkk=>?_⟩
 ·obtain ⟨q1,q2,q3,q4⟩:=h.pool x hx;exact ⟨hp x hx,q2,by show x.ino<g.next;omega,q4⟩
 ·obtain ⟨q1,q2,q3,q4⟩:=h.kept k hkk;refine ⟨q1,q2.imp (fun q=>(hk _ q).1) id,fun hc=>?_,q4⟩;have:=q3 hc;show (if zl k.ino w.pool=true then zf k.ino w.pool else zf k.ino g.xs).kind=1;by_cases hq:zl k.ino w.pool=true
  ·rw[if_pos hq]at this ⊢;exact this
  ·rw[if_neg hq]at this ⊢;rw[(hk _ (q2.resolve_right hq)).2];exact this
theorem zfv (hi:Zm w) (h:yP w) {p:Lz} (hp:z8 p=true) {k:Int} (hk:k=1∨k=2∨k=3) {t:Lz} (h2:k=2->t = []) (h3:k=3->1<=t.length/\t.length<=4095/\∀ b∈t,b≠0):yP (V0 w p k t).1:=by
 unfold V0;by_cases hz:(isV w.fs p false).2.2≠0
 ·rw[if_pos hz];exact h
 rw[if_neg hz];have hs:=Yz hi.fs hp (WB.1 hz);obtain ⟨n1,n2⟩:=Mq hi.fs;show yP { w with fs:=(zd5 w.fs (isV w.fs p false).1 k t).1 };unfold zd5;by_cases hm:may (isV w.fs p false).1.name=true
 case neg=>rw[if_neg hm];exact h
 rw[if_pos hm];by_cases hr:YN w.fs 1 (if k=1 then (t.length:Int) else 0)=true
 case neg=>rw[if_neg hr];exact h
 rw[if_pos hr];have hhas:∀ m,zl m (zdz w.fs (isV w.fs p false).1 k t).xs=(decide (w.fs.next=m)||zl m w.fs.xs):=fun m=>by
  show zl m (qd _ _)=_;rw[qy,zM hs.has]
 refine zsW h (zso hi.fs h.fs hs hm hk hr h2 h3) (by show w.fs.next<=w.fs.next+1;omega) (fun x hx=>?_) (fun m hh=>⟨by rw[hhas,hh,BI],?_⟩)
 ·rw[hhas,(hi.apart x hx).1,A5];exact Wj (by have:=(hi.apart x hx).2;omega)
 ·have hne:w.fs.next≠m:=fun e=>by rw[←e,n1]at hh;cases hh
  show (zf m (qd _ _)).kind=_;rw[qq,if_neg hne];exact (jN hs.has).1
theorem JH {k z:zL} {ks:List zL}:z∈qw k ks↔z=k∨z∈ks:=Q3
theorem HE {w':qj} (h:qI w x) (h1:zl x.ino w'.fs.xs=false) (h2:w.fs.next<=w'.fs.next) (h3:∀ k∈w.kept,k∈w'.kept):qI w' x:=by
 obtain ⟨q1,q2,q3,q4,q5,q6,q7,q8,q9,q10⟩:=h;refine ⟨h1,q2,by omega,q4,q5,q6,q7,q8,q9,?_⟩;rw[Ou]at q10 ⊢;obtain ⟨k,hk,e⟩:=q10;exact ⟨k,h3 k hk,e⟩
theorem zse (hi:Zm w) (h:yP w) {n:Int} (h1:1<=n) (h2:n<=1073741824) {s:zB} (hs:zm w.fs s) (he:(zf s.ino w.fs.xs).es = []):yP (qL w n s).1:=by
 have hI:=zfQ hi (n:=n) hs he;unfold qL at hI ⊢;cases hn:Vd n w.kept with
 | true=>rw[if_pos rfl];exact h
 | false =>
  rw[hn,if_neg (by simp)]at hI;rw[if_neg (by simp)];have hh:=zm.ino hi.fs hs;have hx:=zj hh;have hnd:=h.fs.node _ hx.2.1;have hr:=ziK hi.fs h.fs hs he;have hhas:=Q7 hs.has hh;have hnp:zl s.ino w.pool=false:=by
   rw[Oy];intro hq;have:=(hi.apart _ (zj hq).2.1).1;rw[(zj hq).2.2,hh]at this;cases this
  have hgk:∀ m,zl m (zk w.fs s).xs=true->(zf m (zk w.fs s).xs).kind=(zf m w.fs.xs).kind:=fun m hm=>by
   unfold zk at hm ⊢;by_cases hl:(zf s.ino w.fs.xs).links-1=0
   ·rw[if_pos hl]at hm ⊢;have hm:zl m (zY _ _)=true:=hm;show (zf m (zY _ _)).kind=_;rw[J2]at hm;rw[QJ,if_neg (fun e=>by rw[e]at hm;simp at hm)];exact (jN hs.has).1
   ·rw[if_neg hl];show (zf m (qd _ _)).kind=_;rw[qq];split
    ·rename_i e;have e:(zf s.ino w.fs.xs).ino=m:=e;rw[hx.2.2]at e;subst e;rfl
    ·exact (jN hs.has).1
  by_cases hl:(zf s.ino w.fs.xs).links=1
  ·rw[if_pos hl]at hI ⊢;have hhp:∀ m,zl m (qd { zf s.ino w.fs.xs with links:=0,parent:=0 } w.pool)=(decide (s.ino=m)||zl m w.pool):=fun m=>by
    rw[qy];show (decide ((zf s.ino w.fs.xs).ino=m)||_)=_;rw[hx.2.2]
   refine ⟨hr,fun x hxx=>?_,fun k hk=>?_,fun k hk=>?_⟩
   ·have ha:=(hI.apart x hxx).1;rcases qo.1 hxx with rfl | ⟨hxp,_⟩
    ·have hir:=hi.fs.ino _ hx.2.1;refine ⟨ha,hir.1,by show _<(zk w.fs s).next;rw[YF];exact hir.2,rfl,rfl,he,hi.fs.kind (zf s.ino w.fs.xs) hx.2.1,hnd.bare,hnd.lnk,?_⟩;rw[Ou];refine ⟨_,JH.2 (.inl rfl),?_⟩;show (decide (s.ino=(zf s.ino w.fs.xs).ino)&&!false)=true;rw[hx.2.2];simp
    ·exact HE (h.pool x hxp) ha (by show w.fs.next<=(zk w.fs s).next;rw[YF];exact O0 _) fun k hk=>JH.2 (.inr hk)
   ·rcases JH.1 hk with rfl | hk
    ·exact h1
    ·exact h.slots k hk
   ·rcases JH.1 hk with rfl | hk
    ·exact ⟨h2,.inr (by show zl s.ino _=true;rw[hhp];simp),fun q=>(by cases q),fun _=>rfl⟩
    ·obtain ⟨q1,q2,q3,q4⟩:=h.kept k hk;refine ⟨q1,?_,fun hc=>?_,q4⟩
     ·show zl k.ino (zk w.fs s).xs=true∨zl k.ino _=true;rw[hhp,hhas,if_pos (by omega)];by_cases e:k.ino=s.ino
      ·right;rw[e];simp
      ·rcases q2 with q2 | q2
       ·left;rw[q2,Wj e];rfl
       ·right;rw[q2,BI]
     ·have:=q3 hc;show (if zl k.ino _=true then zf k.ino _ else zf k.ino (zk w.fs s).xs).kind=1;by_cases e:s.ino=k.ino
      ·rw[if_pos (by rw[hhp,Wm e];rfl),qq,if_pos (by rw[←e];exact hx.2.2)];rw[←e,hnp,if_neg (by simp)]at this;exact this
      ·rw[hhp,Wj e,O6];have e5:zf k.ino (qd { zf s.ino w.fs.xs with links:=0,parent:=0 } w.pool)=zf k.ino w.pool:=by
        rw[qq];exact if_neg fun q=>e (hx.2.2.symm.trans q)
       rw[e5];by_cases hq:zl k.ino w.pool=true
       ·rw[if_pos hq]at this ⊢;exact this
       ·rw[if_neg hq]at this ⊢;have q5:=q2.resolve_right hq;rw[hgk _ (by rw[hhas,if_pos (by omega),q5,Wj (fun q=>e q.symm)];rfl)];exact this
  ·rw[if_neg hl]at hI ⊢;have hall:∀ m,zl m (zk w.fs s).xs=zl m w.fs.xs:=fun m=>by rw[hhas,if_neg (by omega)]
   refine ⟨hr,fun x hxx=>?_,fun k hk=>?_,fun k hk=>?_⟩
   ·exact HE (h.pool x hxx) (hI.apart x hxx).1 (by show w.fs.next<=(zk w.fs s).next;rw[YF];exact O0 _) fun k hk=>JH.2 (.inr hk)
   ·rcases JH.1 hk with rfl | hk
    ·exact h1
    ·exact h.slots k hk
   ·rcases JH.1 hk with rfl | hk
    ·exact ⟨h2,.inl (by show zl s.ino (zk w.fs s).xs=true;rw[hall];exact hh),fun q=>(by cases q),fun _=>rfl⟩
    ·obtain ⟨q1,q2,q3,q4⟩:=h.kept k hk;refine ⟨q1,?_,fun hc=>?_,q4⟩
     ·show zl k.ino (zk w.fs s).xs=true∨_;rw[hall];exact q2
     ·have:=q3 hc;show (if zl k.ino w.pool=true then zf k.ino w.pool else zf k.ino (zk w.fs s).xs).kind=1;by_cases hq:zl k.ino w.pool=true
      ·rw[if_pos hq]at this ⊢;exact this
      ·rw[if_neg hq]at this ⊢;rw[hgk _ (by rw[hall];exact q2.resolve_right hq)];exact this
theorem zkU {i:Int} {t:Lz} (hh:zl i f.xs=true) (m:Int):zl m (X9 f i t).xs=zl m f.xs/\(zf m (X9 f i t).xs).kind=(zf m f.xs).kind:=by
 have hx:=zj hh;constructor
 ·show zl m (qd _ _)=_;rw[qy];show (decide ((zf i f.xs).ino=m)||_)=_;rw[hx.2.2];by_cases e:i=m
  ·subst e;rw[hh];simp
  ·simp[e]
 ·show (zf m (qd _ _)).kind=_;rw[qq];split
  ·rename_i e;have e:(zf i f.xs).ino=m:=e;rw[hx.2.2]at e;subst e;rfl
  ·rfl
theorem zeq (hi:Zm w) (h:yP w) {o:OpV} (ha:z8 o.a=true) (hb:z8 o.b=true) (h1:1<=o.slot) (h2:o.slot<=1073741824):yP (QQ w o).1:=by
 unfold QQ;by_cases z1:(jr w.fs o.a).2≠0
 ·rw[if_pos z1];exact h
 rw[if_neg z1];by_cases z2:(jr w.fs o.b).2≠0
 ·rw[if_pos z2];exact h
 rw[if_neg z2];by_cases z3:(jr w.fs o.a).1.ino=(jr w.fs o.b).1.ino
 ·rw[if_pos z3];exact h
 rw[if_neg z3];by_cases z4:(J9 w o.slot (jr w.fs o.b).1.ino).2≠0
 ·rw[if_pos z4];exact h
 rw[if_neg z4];by_cases z5:(kJ w.fs (jr w.fs o.b).1.ino (jr w.fs o.a).1.data).2≠0
 ·rw[if_pos z5];exact h
 rw[if_neg z5];obtain ⟨f1,f2,f3⟩:=kY hi.fs hb (WB.1 z2);generalize (jr w.fs o.b).1.ino=i at *;generalize (jr w.fs o.a).1.data=t at *;have hk1:(zf i w.fs.xs).kind=1:=by rw[←f3];exact f2
 have hnp:zl i w.pool=false:=by
  rw[Oy];intro hq;have:=(hi.apart _ (zj hq).2.1).1;rw[(zj hq).2.2,f1]at this;cases this
 have e1:(J9 w o.slot i).1 = { w with kept:=qw ⟨o.slot,i,true,(zf i w.fs.xs).data⟩ w.kept }:=by
  unfold J9 at z4 ⊢;split
  ·rename_i hq;rw[if_pos hq]at z4;exact absurd (show (13:Int)≠0 by decide) z4
  ·rfl
 have hr:YN w.fs 0 ((t.length:Int)-(zf i w.fs.xs).data.length)=true:=by
  unfold kJ at z5;cases hq:YN w.fs 0 ((t.length:Int)-(zf i w.fs.xs).data.length) with
  | true=>rfl
  | false=>rw[hq,if_neg (by simp)]at z5;exact absurd (show (8:Int)≠0 by decide) z5
 have e2:(kJ w.fs i t).1=X9 w.fs i t:=by unfold kJ;rw[if_pos hr]
 rw[e1,e2];show yP ⟨X9 w.fs i t,qw ⟨o.slot,i,true,(zf i w.fs.xs).data⟩ w.kept,w.pool⟩;have hg:=zkU (t:=t) f1;refine ⟨zqz hi.fs h.fs f1 hk1 hr,fun x hx=>?_,fun k hk=>?_,fun k hk=>?_⟩
 ·exact HE (h.pool x hx) (by show zl x.ino (X9 w.fs i t).xs=false;rw[(hg _).1];exact (hi.apart x hx).1) (O0 _) fun k hk=>JH.2 (.inr hk)
 ·rcases JH.1 hk with rfl | hk
  ·exact h1
  ·exact h.slots k hk
 ·rcases JH.1 hk with rfl | hk
  ·refine ⟨h2,.inl (by show zl i (X9 w.fs i t).xs=true;rw[(hg _).1];exact f1),fun _=>?_,fun q=>(by cases q)⟩;show (if zl i w.pool=true then zf i w.pool else zf i (X9 w.fs i t).xs).kind=1;rw[hnp,if_neg (by simp),(hg i).2];exact hk1
  ·obtain ⟨q1,q2,q3,q4⟩:=h.kept k hk;refine ⟨q1,?_,fun hc=>?_,q4⟩
   ·show zl k.ino (X9 w.fs i t).xs=true∨_;rw[(hg _).1];exact q2
   ·have:=q3 hc;show (if zl k.ino w.pool=true then zf k.ino w.pool else zf k.ino (X9 w.fs i t).xs).kind=1;by_cases hq:zl k.ino w.pool=true
    ·rw[if_pos hq]at this ⊢;exact this
    ·rw[if_neg hq]at this ⊢;rw[(hg _).2];exact this
end
section
theorem zmh (hf:FsI f) {p:Lz} (hp:z8 p=true) {b:Bool} (h:(isV f p b).2.2=0):may (isV f p b).1.name=true:=by
 have h1:=(zi5 hf hp (V2 h)).2.2.2;unfold z8 Jc at hp;simp only[Wp]at hp;exact Wz.1 hp.1.2 _ h1
theorem zlx {o:OpV} (h:Y6 o=true):(qR o.kind=true->1<=o.slot/\o.slot<=1073741824)/\(o.kind=4->Yc o.d=true)/\(o.kind=6->Jf o.b o.a=false):=by
 unfold Y6 at h;simp only[Wp,WW]at h;obtain ⟨⟨⟨⟨⟨⟨h1,h2⟩,h3⟩,h4⟩,h5⟩,h6⟩,h7⟩:=h;refine ⟨fun q=>?_,fun q=>?_,fun q=>?_⟩
 ·rw[if_pos q]at h4;simpa using h4
 ·rw[if_pos q]at h6;exact h6
 ·rw[Wm q]at h7;simp at h7;exact h7.2
theorem zim {t:Lz} (h:Yc t=true):1<=t.length/\t.length<=4095/\∀ b∈t,b≠0:=by
 unfold Yc at h;simp only[Wp,OQ,Ok,WW]at h;obtain ⟨⟨h1,h2⟩,h3⟩:=h;refine ⟨WI.2 h1,h2,fun b hb e=>?_⟩;rw[W5]at h3;exact h3 b hb (by simpa using e)
theorem ziZ {s:zB} (hs:qX f s) {i:Int} (hh:zl i f.xs=true) (m:Int):zl m (Xb f s i).xs=zl m f.xs/\(zf m (Xb f s i).xs).kind=(zf m f.xs).kind:=by
 have hx:=zj hh;constructor
 ·show zl m (qd _ _)=_;rw[qy,zM hs.has];show (decide ((zf i f.xs).ino=m)||_)=_;rw[hx.2.2];by_cases e:i=m
  ·subst e;rw[hh];simp
  ·simp[e]
 ·show (zf m (qd _ _)).kind=_;rw[qq];split
  ·rename_i e;have e:(zf i f.xs).ino=m:=e;rw[hx.2.2]at e;subst e;rfl
  ·exact (jN hs.has).1
theorem JE (hi:FsI f) {a b:zB} (ha:zm f a) (hb:qX f b) (m:Int):zl m (qn f a b).xs=zl m f.xs/\(zf m (qn f a b).xs).kind=(zf m f.xs).kind:=by
 have hb1:zl b.dir (qe a.dir (zg a.name) f.xs)=true:=by rw[zM ha.has];exact hb.has
 have hh:∀ m,zl m (qe b.dir (zQ b.name a.ino) (qe a.dir (zg a.name) f.xs))=zl m f.xs:=fun m=>by rw[zM hb1,zM ha.has]
 have hg:=vF ha hb;unfold qn;simp only;generalize qe b.dir (zQ b.name a.ino) (qe a.dir (zg a.name) f.xs)=g at hh hg;split
 ·have hx:=zj (show zl a.ino g=true by rw[hh];exact zm.ino hi ha);constructor
  ·show zl m (qd _ _)=_;rw[qy];show (decide ((zf a.ino g).ino=m)||_)=_;rw[hx.2.2,hh];by_cases e:a.ino=m
   ·subst e;rw[zm.ino hi ha];simp
   ·simp[e]
  ·show (zf m (qd _ _)).kind=_;rw[qq];split
   ·rename_i e;have e:(zf a.ino g).ino=m:=e;rw[hx.2.2]at e;subst e;exact (hg _).1
   ·exact (hg m).1
 ·exact ⟨hh m,(hg m).1⟩
theorem zuw (hi:Zm w) (h:yP w) (o:OpV) (hk7:o.kind<=7):yP (doV w o).1:=by
 unfold doV;cases hm:Y6 o with
 | false=>exact h
 | true =>
  obtain ⟨p1,p2,k1,_⟩:=Xk hm;obtain ⟨m1,m2,m3⟩:=zlx hm;rw[if_neg (by simp)];by_cases h1:o.kind=1
  ·rw[if_pos h1];exact zfv hi h p1 (.inr (.inl rfl)) (fun _=>rfl) (fun q=>by cases q)
  rw[if_neg h1];by_cases h2:o.kind=2
  ·rw[if_pos h2];unfold V3;split
   ·exact h
   ·exact zfv hi h (p2 (by rw[h2];rfl)) (.inl rfl) (fun q=>by cases q) (fun q=>by cases q)
  rw[if_neg h2];by_cases h3:o.kind=3
  ·rw[if_pos h3];obtain ⟨q1,q2⟩:=m1 (by rw[h3];rfl);exact zeq hi h p1 (p2 (by rw[h3];rfl)) q1 q2
  rw[if_neg h3];by_cases h4:o.kind=4
  ·rw[if_pos h4];exact zfv hi h p1 (.inr (.inr rfl)) (fun q=>by cases q) (fun _=>zim (m2 h4))
  rw[if_neg h4];by_cases h5:o.kind=5
  ·rw[if_pos h5];have pb:=p2 (by rw[h5];rfl);unfold VV;simp only;by_cases z1:(isV w.fs o.a true).2.2≠0
   ·rw[if_pos z1];exact h
   rw[if_neg z1];obtain ⟨ht,hn⟩:=j5 hi.fs p1 (WB.1 z1);by_cases z2:(isV w.fs o.a true).2.1.kind=2
   ·rw[if_pos z2];exact h
   rw[if_neg z2];by_cases z3:(isV w.fs o.b false).2.2≠0
   ·rw[if_pos z3];exact h
   rw[if_neg z3];have z3:=WB.1 z3;have hf:=Yz hi.fs pb z3;have hh:=zm.ino hi.fs ht;rw[hn]at z2 ⊢;rw[(zj hh).2.2];have hg:=ziZ hf hh;exact zsW h (zqO hi.fs h.fs hf (zmh hi.fs pb z3) hh z2) (O0 _) (fun x hx=>by rw[(hg _).1];exact (hi.apart x hx).1) fun m hmm=>⟨by rw[(hg _).1];exact hmm,(hg _).2⟩
  rw[if_neg h5];by_cases h6:o.kind=6
  ·rw[if_pos h6];have pb:=p2 (by rw[h6];rfl);unfold J1;by_cases z1:(isV w.fs o.a true).2.2≠0
   ·rw[if_pos z1];exact h
   rw[if_neg z1];by_cases z3:(isV w.fs o.b false).2.2≠0
   ·rw[if_pos z3];exact h
   rw[if_neg z3];have z1:=WB.1 z1;have z3:=WB.1 z3;have ht:=(j5 hi.fs p1 z1).1;have hf:=Yz hi.fs pb z3;have hg:=JE hi.fs ht hf;refine zsW h (zpR hi.fs h.fs ht hf (zmh hi.fs pb z3) fun hk=>zgc hi.fs h.fs p1 pb z1 z3 (m3 h6) hk) ?_ (fun x hx=>by rw[(hg _).1];exact (hi.apart x hx).1) fun m hmm=>⟨by rw[(hg _).1];exact hmm,(hg _).2⟩;unfold qn;simp only;split<;>exact O0 _
  rw[if_neg h6];have h7:o.kind=7:=by omega
  obtain ⟨q1,q2⟩:=m1 (by rw[h7];rfl);unfold qT;simp only;by_cases z1:(isV w.fs o.a true).2.2≠0
  ·rw[if_pos z1];exact h
  rw[if_neg z1];obtain ⟨ht,hn⟩:=j5 hi.fs p1 (WB.1 z1);by_cases z2:(isV w.fs o.a true).2.1.es≠[]
  ·rw[if_pos z2];exact h
  rw[if_neg z2];exact zse hi h q1 q2 ht (by rw[←hn];exact WB.1 z2)
theorem Hy (w:qj) (p:Lz) (k:Int) (t:Lz):(V0 w p k t).1.fs.next<=w.fs.next+1:=by
 unfold V0;split
 ·show w.fs.next<=_;omega
 ·show (zd5 w.fs (isV w.fs p false).1 k t).1.next<=_;rcases QY w.fs (isV w.fs p false).1 k t with e | e
  ·rw[e];omega
  ·rw[e];exact O0 _
theorem zoI (w:qj) (o:OpV):(doV w o).1.fs.next<=w.fs.next+1:=by
 have h0:w.fs.next<=w.fs.next+1:=by omega
 unfold doV;split
 ·exact h0
 split
 ·exact Hy ..
 split
 ·unfold V3;split
  ·exact h0
  ·exact Hy ..
 split
 ·unfold QQ;split
  ·exact h0
  split
  ·exact h0
  split
  ·exact h0
  split
  ·exact h0
  split
  ·exact h0
  ·show (kJ w.fs _ _).1.next<=_;unfold kJ;split<;>exact h0
 split
 ·exact Hy ..
 split
 ·unfold VV;simp only;split
  ·exact h0
  split
  ·exact h0
  split
  ·exact h0
  ·exact h0
 split
 ·unfold J1;split
  ·exact h0
  split
  ·exact h0
  ·show (qn w.fs _ _).next<=_;unfold qn;simp only;split<;>exact h0
 ·unfold qT;simp only;split
  ·exact h0
  split
  ·exact h0
  ·unfold qL;split
   ·exact h0
   ·show (zk w.fs _).next<=_;rw[YF];exact h0
end
section
inductive zjd (w:qj):List OpV->qj->Prop
 | nil:zjd w [] w
 | snoc {l:List OpV} {v:qj} {o:OpV}:zjd w l v->(doV v o).2=0->zjd w (l++[o]) (doV v o).1
structure zuT (w:qj) (d:zX):Prop where
 run:zjd w d.ops d.w
 may:∀ o∈d.ops,Y6 o=true/\o.kind<=7
 rise:(Ja d.ops).Pairwise (· < ·)
 over:∀ s∈Ja d.ops,Jj w.kept<s/\s<=d.slot
 last:Jj w.kept<=d.slot
 stat:(d.status=1)↔d.diags≠[]
 right:yP d.w
end
section
theorem zih (hi:FsI f) {ns:List Lz} {y:Int} (h:YS f.xs ns y):∃ d nm,∀ r,atW f.xs (ns++r) ⟨0,[],1⟩=atW f.xs r ⟨d,nm,y⟩:=by
 induction h with
 | root=>exact ⟨0,[],fun r=>rfl⟩
 | step h1 h2 h3 h4 ih =>
  rename_i ns y n m;obtain ⟨d,nm,ih⟩:=ih;refine ⟨y,m,fun r=>?_⟩;rw[WH,ih];show atW f.xs (m :: r) ⟨d,nm,y⟩=_;have hne:y≠0:=XY hi h2;have e1:(zf y f.xs).ino=y:=(zj h2).2.2;have e2:zT m (zf y f.xs).es=n:=by unfold zT;rw[h4]
  rw[atW,if_neg hne,if_neg (fun q=>q h3),e1,e2]
theorem xj {f:FsV} (h:okM f):∀ (m:Nat) (n:Int) (ns:List Lz),YS f.xs ns n->∀ p∈jg f.xs m n ns,YS f.xs p.1 p.2.ino
 | 0,n,ns,hl,p,hp=>by unfold jg at hp;cases hp
 | m+1,n,ns,hl,p,hp=>by
  unfold jg at hp;split at hp
  ·rename_i hh;rcases WF.1 hp with rfl | hp
   ·show YS f.xs ns (zf n f.xs).ino;rw[(zj hh).2.2];exact hl
   ·obtain ⟨e,he,hp⟩:=Au.1 hp;have hi:=Vg h.2;refine xj h m e.ino _ (.step hl hh (kQ h hh he) ?_) p hp;have hR:=hi.es _ (zj hh).2.1;have hx:Yj e.name (zf n f.xs).es=true:=by
     unfold Yj Js;rw[Ou];exact ⟨e,he,by simp⟩
    have h2:=Yo hx;have h3:=zK h2;have:(⟨e.name,zT e.name (zf n f.xs).es⟩:zN)=e:=by
     obtain ⟨i,hi',ei⟩:=Wt h3.2;obtain ⟨j,hj',ej⟩:=Wt he;have hp:=WR.1 hR;rcases Af i j with q | q | q
     ·have:=hp i j hi' hj' q;rw[ei,ej]at this;exact absurd this (by show ¬Op.bytesLess e.name e.name=true;rw[YD];simp)
     ·subst q;rw[←ei,ej]
     ·have:=hp j i hj' hi' q;rw[ei,ej]at this;exact absurd this (by show ¬Op.bytesLess e.name e.name=true;rw[YD];simp)
    rw[h2];have e2:zT e.name (zf n f.xs).es=e.ino:=Wu zN.ino this;rw[e2]
  ·cases hp
theorem Mf (h:okM f) {n:Int} (hh:zl n f.xs=true) (hk:(zf n f.xs).kind=2):∃ ns,(∀ z∈ns,may z=true)/\kR n (trV f.xs 1 [])=some (qC ns)/\YS f.xs ns n:=by
 obtain ⟨h0,h1,_⟩:=qS h;have hkk:∀ p∈trV f.xs 1 [],p.2.ino=n->p.2.kind=2:=fun p hp hpn=>by
  obtain ⟨_,q⟩:=Hl hp;rw[hpn]at q;rw[←q];exact hk
 obtain ⟨p,hp⟩:=U7 (Xv h _ 1 [] h1.2.2.2.2.2.2.2.1) hkk (zel h hh);obtain ⟨q,q1,q2⟩:=yn h hh hk;have hq:Zv n (trV f.xs 1 []) = [qC p.1]:=by unfold Zv;rw[hp];rfl
 rw[hq]at q1;have hqe:qC p.1=q:=by simpa using q1
 have hpf:p∈(trV f.xs 1 []).filter (fun p=>decide (p.2.ino=n)):=by rw[hp];exact W0.2 rfl
 obtain ⟨hpm,hpn⟩:=OC.1 hpf;obtain ⟨zs,z1,z2⟩:=NN (kM h).1 _ 1 [] p hpm;rw[OB]at z1;rw[←z1]at z2;have hl:=xj h _ 1 [] .root p hpm;have hpn:p.2.ino=n:=by simpa using hpn
 rw[hpn]at hl;exact ⟨p.1,z2,by rw[q2,hqe],hl⟩
theorem Ho (hi:FsI f) {ns:List Lz} {n:Int} (hl:YS f.xs ns n) (hh:zl n f.xs=true) (hk:(zf n f.xs).kind=2) (hn:∀ z∈ns,may z=true) {m:Lz} (hm:may m=true):z8 (qC (ns++[m]))=true/\atV f (qC (ns++[m]))=(⟨n,m,zT m (zf n f.xs).es⟩,0):=by
 have hall:∀ z∈ns++[m],may z=true:=fun z hz=>by
  rcases WC.1 hz with hz | hz
  ·exact hn z hz
  ·rw[W0.1 hz];exact hm
 have hnm:=XL (ns++[m]) fun z hz=>JW (hall z hz);have hp:Jc (qC (ns++[m]))=true:=by
  unfold Jc;rw[hnm,Wm rfl,Oj,Wz];exact hall
 refine ⟨by unfold z8;rw[hp,hnm];simp,?_⟩;unfold atV;rw[if_pos hp,hnm];obtain ⟨d,nm,hw⟩:=zih hi hl;rw[hw];have hne:n≠0:=XY hi hh;rw[atW,if_neg hne,if_neg (fun q=>q hk),(zj hh).2.2]
 rfl
theorem Vu (h:okM f) {s:zB} (hh:zl s.dir f.xs=true) (hk:(zf s.dir f.xs).kind=2) (hm:may s.name=true):z8 (qp f s)=true/\atV f (qp f s)=(⟨s.dir,s.name,zT s.name (zf s.dir f.xs).es⟩,0):=by
 obtain ⟨ns,n1,n2,n3⟩:=Mf h hh hk;have e:qp f s=qC (ns++[s.name]):=by
  unfold qp;rw[n2,WZ,QX ns s.name fun y hy=>(JW (n1 y hy)).1]
 rw[e];exact Ho (Vg h.2) n3 hh hk n1 hm
end
section
abbrev Qg:=List Lz
def onL (f:FsV) (follow:Bool) (lk:zn->zn->Qg->Bool->zB×Int):Qg->zB->Bool->zB×Int
 | [],s,dir=>if zl s.ino f.xs=true/\dir=true/\(zf s.ino f.xs).kind≠2 then (jj,3) else (s,0)
 | n :: r,s,dir =>
  if s.ino=0 then (jj,1)
  else if (zf s.ino f.xs).kind≠2 then (jj,3)
  else if n = [46] then onL f follow lk r ⟨0,[],(zf s.ino f.xs).ino⟩ dir
  else if n = [46,46] then onL f follow lk r ⟨0,[],(zf s.ino f.xs).parent⟩ dir
  else if Yj n (zf s.ino f.xs).es=false∨(zf (zT n (zf s.ino f.xs).es) f.xs).kind≠3∨(r = []/\follow=false/\dir=false) then
   onL f follow lk r ⟨(zf s.ino f.xs).ino,n,zT n (zf s.ino f.xs).es⟩ dir
  else lk (zf (zT n (zf s.ino f.xs).es) f.xs) (zf s.ino f.xs) r dir
def jO (p:Lz):Bool:=!decide (zp p = [])&&Lib.hasSuffix p [47]
def zaC (p:Lz):Bool:=Lib.hasPrefix p [47]
def onN (f:FsV) (follow:Bool):Nat->Qg->zB->Bool->zB×Int
 | 0=>onL f follow fun _ _ _ _=>(jj,6)
 | k+1=>onL f follow fun x d r dir=>if UQ x.data then (jj,7) else onN f follow k (zp x.data++r) ⟨0,[],if zaC x.data then 1 else d.ino⟩ (dir||(jO x.data&&decide (r = [])))
def Ze (f:FsV) (b:Lz):Int×Int:=
 if (atV f b).2≠0 then (0,(atV f b).2) else if (atV f b).1.ino=0 then (0,1) else if (zf (atV f b).1.ino f.xs).kind≠2 then (0,3) else ((zf (atV f b).1.ino f.xs).ino,0)
def Yl (f:FsV) (p:Lz):zn×Int:=if (atV f p).2≠0 then (vU,(atV f p).2) else if (atV f p).1.ino=0 then (vU,1) else (zf (atV f p).1.ino f.xs,0)
def zR (f:FsV) (b p:Lz) (follow:Bool):zB×Int:=
 if p = [] then (jj,1) else if UQ p then (jj,7)
 else if zaC p then onN f follow 40 (zp p) ⟨0,[],1⟩ (jO p)
 else if (Ze f b).2≠0 then (jj,(Ze f b).2) else onN f follow 40 (zp p) ⟨0,[],(Ze f b).1⟩ (jO p)
def zfX (f:FsV) (s:zB):Prop:=s.name = []∨(zl s.dir f.xs=true/\(zf s.dir f.xs).kind=2/\s.ino=zT s.name (zf s.dir f.xs).es)
theorem Vx (h:(zf n xs).kind=2):zl n xs=true:=by
 cases hh:zl n xs with
 | true=>rfl
 | false=>rw[(JI hh).2]at h;exact absurd h (by decide)
theorem k7 {f:FsV} {P:zB->Prop} {Q:Int->Prop} (hp:∀ m,Q m->P ⟨0,[],m⟩) (hq:∀ m,(zf m f.xs).kind=2->Q m/\Q (zf m f.xs).parent) (hn:∀ m n,(zf m f.xs).kind=2->P ⟨m,n,zT n (zf m f.xs).es⟩)
  {follow:Bool} {lk:zn->zn->Qg->Bool->zB×Int} (hl:∀ x m r dir,(zf m f.xs).kind=2->(lk x (zf m f.xs) r dir).2=0->P (lk x (zf m f.xs) r dir).1):∀ (l:Qg) (s:zB) (dir:Bool),P s->(onL f follow lk l s dir).2=0->P (onL f follow lk l s dir).1
 | [],s,dir,hs,h=>by
  unfold onL at h ⊢;split at h
  ·exact absurd h (show ¬(3:Int)=0 by decide)
  ·rename_i hn;rw[if_neg hn];exact hs
 | n :: r,s,dir,hs,h=>by
  unfold onL at h ⊢;by_cases h1:s.ino=0
  ·rw[if_pos h1]at h;exact absurd h (show ¬(1:Int)=0 by decide)
  rw[if_neg h1]at h ⊢;by_cases h2:(zf s.ino f.xs).kind=2
  case neg=>rw[if_pos h2]at h;exact absurd h (show ¬(3:Int)=0 by decide)
  rw[if_neg (fun q=>q h2)]at h ⊢;have e:=(zj (Vx h2)).2.2;by_cases h3:n = [46]
  ·rw[if_pos h3]at h ⊢;exact k7 hp hq hn hl r _ dir (by rw[e];exact hp _ (hq _ h2).1) h
  rw[if_neg h3]at h ⊢;by_cases h4:n = [46,46]
  ·rw[if_pos h4]at h ⊢;exact k7 hp hq hn hl r _ dir (hp _ (hq _ h2).2) h
  rw[if_neg h4]at h ⊢;split at h
  ·rename_i h5;rw[if_pos h5];exact k7 hp hq hn hl r _ dir (by rw[e];exact hn _ _ h2) h
  ·rename_i h5;rw[if_neg h5];exact hl _ _ _ _ h2 h
theorem um {f:FsV} {P:zB->Prop} {Q:Int->Prop} (hp:∀ m,Q m->P ⟨0,[],m⟩) (h1:Q 1) (hq:∀ m,(zf m f.xs).kind=2->Q m/\Q (zf m f.xs).parent) (hn:∀ m n,(zf m f.xs).kind=2->P ⟨m,n,zT n (zf m f.xs).es⟩) {follow:Bool}:∀ (k:Nat) (l:Qg) (s:zB) (dir:Bool),P s->(onN f follow k l s dir).2=0->P (onN f follow k l s dir).1
 | 0,l,s,dir,hs,h=>k7 hp hq hn (fun _ _ _ _ _ h=>absurd h (show ¬(6:Int)=0 by decide)) l s dir hs h
 | k+1,l,s,dir,hs,h=>k7 hp hq hn (fun x m r dir h2 h=>by
   split at h
   ·exact absurd h (show ¬(7:Int)=0 by decide)
   ·rename_i hg;rw[if_neg hg];refine um hp h1 hq hn k _ _ _ (hp _ ?_) h;split
    ·exact h1
    ·rw[(zj (Vx h2)).2.2];exact (hq _ h2).1) l s dir hs h
theorem zjN {P:zB->Prop} {Q:Int->Prop} (hp:∀ m,Q m->P ⟨0,[],m⟩) (h1:Q 1) (hq:∀ m,(zf m f.xs).kind=2->Q m/\Q (zf m f.xs).parent) (hn:∀ m n,(zf m f.xs).kind=2->P ⟨m,n,zT n (zf m f.xs).es⟩) {b p:Lz} {follow:Bool} (h:(zR f b p follow).2=0):P (zR f b p follow).1:=by
 unfold zR at h ⊢;by_cases a:p = []
 ·rw[if_pos a]at h;exact absurd h (show ¬(1:Int)=0 by decide)
 rw[if_neg a]at h ⊢;by_cases c:UQ p=true
 ·rw[if_pos c]at h;exact absurd h (show ¬(7:Int)=0 by decide)
 rw[if_neg c]at h ⊢;by_cases e:zaC p=true
 ·rw[if_pos e]at h ⊢;exact um hp h1 hq hn _ _ _ _ (hp _ h1) h
 rw[if_neg e]at h ⊢;by_cases g:(Ze f b).2≠0
 ·rw[if_pos g]at h;exact absurd h g
 rw[if_neg g]at h ⊢;refine um hp h1 hq hn _ _ _ _ (hp _ ?_) h;have g:=WB.1 g;unfold Ze at g ⊢;by_cases i:(atV f b).2≠0
 ·rw[if_pos i]at g;exact absurd g i
 rw[if_neg i]at g ⊢;by_cases j:(atV f b).1.ino=0
 ·rw[if_pos j]at g;exact absurd g (show ¬(1:Int)=0 by decide)
 rw[if_neg j]at g ⊢;by_cases k:(zf (atV f b).1.ino f.xs).kind=2
 ·rw[if_neg (fun q=>q k)];show Q (zf _ f.xs).ino;rw[(zj (Vx k)).2.2];exact (hq _ k).1
 ·rw[if_pos k]at g;exact absurd g (show ¬(3:Int)=0 by decide)
theorem Vj {b p:Lz} {follow:Bool} (h:(zR f b p follow).2=0):zfX f (zR f b p follow).1:=
 zjN (P:=zfX f) (Q:=fun _=>True) (fun _ _=>.inl rfl) trivial (fun _ _=>⟨trivial,trivial⟩) (fun m n h=>.inr ⟨Vx h,h,rfl⟩) h
def lkN (f:FsV) (follow:Bool):Nat->zn->zn->Qg->Bool->zB×Int
 | 0=>fun _ _ _ _=>(jj,6)
 | k+1=>fun x d r dir=>if UQ x.data then (jj,7) else onN f follow k (zp x.data++r) ⟨0,[],if zaC x.data then 1 else d.ino⟩ (dir||(jO x.data&&decide (r = [])))
theorem yc (f:FsV) (follow:Bool) (k:Nat):onN f follow k=onL f follow (lkN f follow k):=by cases k<;>rfl
theorem QP (f:FsV) (follow:Bool) (k:Nat) (x d:zn) (r:Qg) (dir:Bool):lkN f follow (k+1) x d r dir=if UQ x.data then (jj,7) else onN f follow k (zp x.data++r) ⟨0,[],if zaC x.data then 1 else d.ino⟩ (dir||(jO x.data&&decide (r = []))):=rfl
end
section
open Go.RowKit
section
variable {G:zu}
end
end
section
open Go.RowKit
theorem QC {f:FsV} (hs:FsS f) {follow:Bool} {lk:zn->zn->Qg->Bool->zB×Int} (hl:∀ x d r dir,x.data.length<=10000->(∀ y∈r,y.length<=100000)->(lk x d r dir).1.name.length<=100000):∀ (l:Qg) (s:zB) (dir:Bool),(∀ y∈l,y.length<=100000)->s.name.length<=100000->(onL f follow lk l s dir).1.name.length<=100000
 | [],s,dir,hy,h=>by
  unfold onL;split
  ·exact Wb _
  ·exact h
 | n :: r,s,dir,hy,h=>by
  have hr:∀ y∈r,y.length<=100000:=fun y q=>hy y (Wl _ q);unfold onL;split
  ·exact Wb _
  split
  ·exact Wb _
  split
  ·exact QC hs hl r _ dir hr (Wb _)
  split
  ·exact QC hs hl r _ dir hr (Wb _)
  split
  ·exact QC hs hl r _ dir hr (hy n Wk)
  ·rename_i hq;refine hl _ _ _ _ ?_ hr;have hk3:(zf (zT n (zf s.ino f.xs).es) f.xs).kind=3:=WB.1 fun q=>hq (.inr (.inl q));have hhx:zl (zT n (zf s.ino f.xs).es) f.xs=true:=by
    cases hq2:zl (zT n (zf s.ino f.xs).es) f.xs with
    | true=>rfl
    | false=>rw[(JI hq2).2]at hk3;exact absurd hk3 (by decide)
   exact (hs.node _ (zj hhx).2.1).2.1
theorem Ht {f:FsV} (hs:FsS f) {follow:Bool}:∀ (k:Nat) (l:Qg) (s:zB) (dir:Bool),(∀ y∈l,y.length<=100000)->s.name.length<=100000->(onN f follow k l s dir).1.name.length<=100000
 | 0,l,s,dir,hy,h=>QC hs (fun _ _ _ _ _ _=>Wb _) l s dir hy h
 | k+1,l,s,dir,hy,h=>QC hs (fun x d r dir hx hr=>by
   split
   ·exact Wb _
   ·refine Ht hs k _ _ _ (fun y q=>?_) (Wb _);rcases WC.1 q with q | q
    ·have:=(Qz x.data).2 y q;omega
    ·exact hr y q) l s dir hy h
theorem zdS (hs:FsS f) (b p:Lz) (follow:Bool) (hp:p.length<=100000):(zR f b p follow).1.name.length<=100000:=by
 have hn:∀ y∈zp p,y.length<=100000:=fun y q=>by have:=(Qz p).2 y q;omega
 unfold zR;split
 ·exact Wb _
 split
 ·exact Wb _
 split
 ·exact Ht hs _ _ _ _ hn (Wb _)
 split
 ·exact Wb _
 ·exact Ht hs _ _ _ _ hn (Wb _)
def UR (x:zn):Bool:=decide (x.kind=3)&&decide (300<(x.data.length:Int))
def Vz (f:FsV) (b p:Lz):Bool:=!((f.xs.take 100).any UR)&&decide ((b.length:Int)<=1000)&&decide ((p.length:Int)<=5000)
theorem zdp (f:FsV) (b p:Lz):Fun Tryz.prog G0 36 [.agg (fsC f),.str b,.str p] (qJ (Vz f b p)) 0:=by
 have hll:(zr f.xs).length=f.xs.length:=We ..;refine fon Tryz.func36 ?_;dsimp only[Tryz.f36];push_cast;refine loop (fun i:Nat=>⟨[(1,.str b),(2,.str p),(3,.ptr 0 0),(7,.sc (.int .i64 i))],[fsC f],0,0⟩) (fun i=>i<=100/\∀ t (h:t<f.xs.length),t<i->UR f.xs[t]=false) (fun i=>100-i) 0 ⟨Wb _,fun t h h'=>absurd h' (Oo _)⟩ ?_ ?_
 ·exact wk
 ·rintro i ⟨h1,h2⟩;have hend:¬(i<f.xs.length/\i<100)->(f.xs.take 100).any UR=false:=fun h=>by
   rw[W5];intro x hx;obtain ⟨t,ht,rfl⟩:=Wt hx;rw[W7]at ht;rw[List.getElem_take,h2 t (by omega) (by omega)];decide
  have stop:¬(i<f.xs.length/\i<100)->(decide ((b.length:Int)<=1000)&&decide ((p.length:Int)<=5000))=Vz f b p:=fun h=>by
   unfold Vz;rw[hend h];rfl
  by_cases h:i<f.xs.length
  ·by_cases h100:i<100
   ·have g1:=jb f.xs i h;have h100':(i:Int)<100:=by omega
    have hm:f.xs[i]∈f.xs.take 100:=by
     rw[AE];exact ⟨i,by omega,rfl⟩
    have next:UR f.xs[i]=false->∀ t (h:t<f.xs.length),t<i+1->UR f.xs[t]=false:=fun q t ht hlt=>by
     rcases Wr t i with r | r
     ·exact h2 t ht r
     ·have:t=i:=by omega
      subst this;exact q
    by_cases hk:f.xs[i].kind=3
    ·by_cases hd:300<(f.xs[i].data.length:Int)
     ·have hn:Vz f b p=false:=by
       have:(f.xs.take 100).any UR=true:=Ou.2 ⟨_,hm,by unfold UR;rw[Wm hk,Wm hd];rfl⟩;unfold Vz;rw[this];rfl
      push_cast [hll,h,h100',g1,hk,hd]
      repeat refine an ?_
      exact dn (by push_cast [ze,zd,CLe,zh,hn])
     ·have hq:UR f.xs[i]=false:=by unfold UR;rw[Wj hd,Al]
      push_cast [hll,h,h100',g1,hk,hd]
      repeat refine an ?_
      exact ⟨i+1,⟨by omega,next hq⟩,by omega,wk⟩
    ·have hq:UR f.xs[i]=false:=by unfold UR;rw[Wj hk,W8]
     push_cast [hll,h,h100',g1,hk]
     repeat refine an ?_
     exact ⟨i+1,⟨by omega,next hq⟩,by omega,wk⟩
   ·have h100':((i:Int)<100)=False:=Wy (by omega);have:=(stop (by omega)).symm;by_cases hb:(b.length:Int)<=1000
    ·rw[Wm hb,Oj]at this;push_cast [hll,h,h100',hb];exact dn (by push_cast [ze,zd,CLe,zh,this])
    ·rw[Wj hb,W8]at this;push_cast [hll,h,h100',hb];exact dn (by push_cast [ze,zd,CLe,zh,this])
  ·have:=(stop (by omega)).symm;by_cases hb:(b.length:Int)<=1000
   ·rw[Wm hb,Oj]at this;push_cast [hll,h,hb];exact dn (by push_cast [ze,zd,CLe,zh,this])
   ·rw[Wj hb,W8]at this;push_cast [hll,h,hb];exact dn (by push_cast [ze,zd,CLe,zh,this])
end
section
theorem zmY (hi:FsI f) (hr:FsR f) {n:Int} (hh:zl n f.xs=true) (hk:(zf n f.xs).kind=2):zl (zf n f.xs).parent f.xs=true:=by
 have g:=zj hh;by_cases h1:n=1
 ·rw[(hr.node _ g.2.1).top (by rw[g.2.2];exact h1)];exact hi.root
 ·have hl:=(hr.node _ g.2.1).named (by rw[g.2.2];exact h1);rw[FsR.links hi g.2.1,g.2.2]at hl;obtain ⟨p,hp⟩:=zbz (n:=n) (l:=qt f.xs) (by omega);obtain ⟨y,hy,e,he,q1,q2⟩:=VI.1 hp;obtain ⟨rk,hed⟩:=hr.edge;have:=(hed y hy e he (by rw[q1];exact hk)).1;rw[q1]at this;rw[this];exact Ji hy
end
section
def Gd (xs:List zn):Prop:=∀ x∈xs,x.kind=3->x.data.length<=1000
theorem N7 (h:Gd xs) (n:Int):(zf n xs).kind=3->(zf n xs).data.length<=1000:=fun hk=>by
 cases hh:zl n xs with
 | true=>exact h _ (zj hh).2.1 hk
 | false=>rw[(JI hh).2]at hk;exact absurd hk (by decide)
theorem Hv (h:Gd xs) (hx:x.kind=3->x.data.length<=1000):Gd (qd x xs):=fun z hz hk=>by
 rcases zny hz with rfl | hz
 ·exact hx hk
 ·exact h z hz hk
theorem y9 (h:zl n xs=false):zf n xs=vU:=by unfold zf;rw[(JI h).1];rfl
end
section
theorem ky (h:Gd xs) (n:Int) (F:List zN->List zN):Gd (qe n F xs):=Hv h (N7 h n)
theorem NM (h:Gd w.fs.xs) {p:Lz} {k:Int} {t:Lz} (ht:k=3->t.length<=1000):Gd (V0 w p k t).1.fs.xs:=by
 unfold V0;split
 ·exact h
 ·show Gd (zd5 _ _ _ _).1.xs;rcases QY w.fs (isV w.fs p false).1 k t with e | e
  ·rw[e];exact h
  ·rw[e];exact Hv (ky h _ _) ht
theorem zb0 (s:zB) (h:Gd f.xs):Gd (zk f s).xs:=by
 have hd:Gd (qe s.dir (zg s.name) f.xs):=ky h _ _;unfold zk;split
 ·exact fun z hz hk=>hd z (J3.1 hz).1 hk
 ·exact Hv hd (N7 h s.ino)
theorem zkR (a b:zB) (h:Gd f.xs):Gd (qn f a b).xs:=by
 have hd:=ky (ky h a.dir (zg a.name)) b.dir (zQ b.name a.ino);unfold qn;simp only;split
 ·exact Hv hd (N7 hd a.ino)
 ·exact hd
theorem zqE (h:Gd w.fs.xs) (o:OpV) (hd:o.d.length<=1000) (h3:o.kind≠3):Gd (doV w o).1.fs.xs:=by
 unfold doV;by_cases c0:(!Y6 o)=true
 ·rw[if_pos c0];exact h
 rw[if_neg c0];by_cases c1:o.kind=1
 ·rw[if_pos c1];exact NM h fun q=>by cases q
 rw[if_neg c1];by_cases c2:o.kind=2
 ·rw[if_pos c2];unfold V3;split
  ·exact h
  ·exact NM h fun q=>by cases q
 rw[if_neg c2,if_neg h3];by_cases c4:o.kind=4
 ·rw[if_pos c4];exact NM h fun _=>hd
 rw[if_neg c4];by_cases c5:o.kind=5
 ·rw[if_pos c5];unfold VV;simp only;split
  ·exact h
  split
  ·exact h
  split
  ·exact h
  ·exact Hv (ky h _ _) (N7 h _)
 rw[if_neg c5];by_cases c6:o.kind=6
 ·rw[if_pos c6];unfold J1;split
  ·exact h
  split
  ·exact h
  ·exact zkR _ _ h
 rw[if_neg c6];unfold qT;simp only;split
 ·exact h
 split
 ·exact h
 ·unfold qL;split
  ·exact h
  ·exact zb0 _ h
structure GrD (N:Nat) (d:zX):Prop where
 b:UJ N d
 r:yP d.w
 next:d.w.fs.next<=549755813888+N
 dat:Gd d.w.fs.xs
theorem yS.mono {M:Nat} (h:yS N w) (hN:N<=M):yS M w:=by
 have key:∀ x,Hf N x->Hf M x:=fun x hx=>⟨WJ hx.1 hN,hx.2⟩;exact ⟨WJ h.len hN,fun x hx=>key x (h.node x hx),WJ h.klen hN,h.kdata,WJ h.plen hN,fun x hx=>key x (h.pnode x hx),by have:=h.next;omega,h.room⟩
theorem GrD.mono {M:Nat} (h:GrD N d) (hN:N<=M):GrD M d:=
 ⟨⟨h.b.wi,h.b.wb.mono (by omega),WJ h.b.ops hN,WJ h.b.diags hN,h.b.slot.1,by have:=h.b.slot.2;omega⟩,h.r,by have:=h.next;omega,h.dat⟩
theorem GrD.add (h:GrD N d) {o:OpV} (ho:o.d.length<=1000) (h3:o.kind≠3):GrD (N+1) (Qe d o).1:=by
 have hB:=zqL h.b (o:=o) (by omega);by_cases hz:(Qe d o).2=0
 case neg=>rw[yp hz]at hB ⊢;exact ⟨hB,h.r,by have:=h.next;omega,h.dat⟩
 unfold Qe at hz hB ⊢;split at hz
 ·exact absurd hz (show ¬(12:Int)=0 by decide)
 rename_i hk;rw[if_neg hk]at hB ⊢;split at hz
 ·rename_i hd;exact absurd hz hd
 rename_i hd;rw[if_neg hd]at hB ⊢;have hk7:(Zz d o).kind<=7:=by show o.kind<=7;omega
 have hn:=zoI d.w (Zz d o);have hx:=h.next;exact ⟨hB,zuw h.b.wi h.r _ hk7,by show (doV d.w (Zz d o)).1.fs.next<=_;omega,zqE h.dat _ ho h3⟩
theorem GrD.tell (h:GrD N d) (x:Lz):GrD (N+1) (YJ d x):=by
 have hB:=h.b.up;exact ⟨⟨hB.wi,hB.wb,hB.ops,by show (d.diags++[x]).length<=N+1;rw[Wn,Om];have:=h.b.diags;omega,hB.slot⟩,h.r,by have:=h.next;show d.w.fs.next<=_;omega,h.dat⟩
theorem GrD.ok (h:GrD N d) (hN:N<=3200):okM d.w.fs:=
 ⟨⟨by have:=h.b.wb.len;omega,fun x hx=>by obtain ⟨q1,q2,q3⟩:=h.b.wb.node x hx;exact ⟨q2,by omega,q3⟩⟩,h.r.fs.check h.b.wi.fs (by have:=h.next;omega)⟩
theorem zmr (h:okW w) (hd:Gd w.fs.xs) (hn:w.fs.next<=549755813888) (hl:Jj w.kept<=536870912):GrD 0 (Gf w):=
 ⟨⟨zsP h,zgf h,Wc _,Wc _,(Zp h.2.2.2.2.1).1,by show Jj w.kept<=_;omega⟩,ztp h,by show w.fs.next<=_;omega,hd⟩
theorem VD (h:okM f) {s:zB} (hh:zl s.dir f.xs=true) (hk:(zf s.dir f.xs).kind=2) (hm:may s.name=true):(qp f s).length<=990000:=by
 obtain ⟨ns,n1,n2,n3,n4,n5⟩:=zml h hh hk;have hml:=kZ hm;have hjw:=QE ns;have hjl:(qC ns).length<=980001:=by unfold qC;split<;>simp<;>omega
 have e:qp f s=kC (qC ns) s.name:=by unfold qp;rw[n5];rfl
 have:=zhc (qC ns) s.name;rw[e];omega
theorem zhb (hi:FsI f) {s:zB} (h:zfX f s) (h0:s.ino=0) (hm:may s.name=true):qX f s:=by
 rcases h with h | ⟨h1,h2,h3⟩
 ·rw[h]at hm;exact absurd hm (by decide)
 ·refine ⟨h1,h2,?_⟩;cases hq:Yj s.name (zf s.dir f.xs).es with
  | false=>rfl
  | true=>exact absurd (h3.symm.trans h0) (XY hi (ZF hi h1 hq))
theorem Q0 {s:zB} (h:zfX f s) (hi:FsI f) (h0:zl s.ino f.xs=true) (hn:s.name≠[]):zm f s:=by
 rcases h with h | ⟨h1,h2,h3⟩
 ·exact absurd h hn
 ·have h0:=XY hi h0;refine ⟨h1,h2,?_⟩;have he:Yj s.name (zf s.dir f.xs).es=true:=by
   unfold Yj;rw[qg];cases hq:qz zN.name s.name (zf s.dir f.xs).es with
   | some e=>rfl
   | none=>unfold zT at h3;rw[hq]at h3;exact absurd h3 h0
  rw[Yo he,←h3]
theorem Qw (hr:FsR f) {s:zB} (hs:zm f s):may s.name=true:=(hr.node _ (zj hs.has).2.1).nam ⟨s.name,s.ino⟩ (zK hs.there).2
end
section
def Gx (f:FsV) (b p:Lz):Bool:=decide ((zR f b p true).2=0)&&decide ((zf (zR f b p true).1.ino f.xs).kind=2)
def ziw (f:FsV) (b:Lz) (k:Int) (o p:Lz):Bool:=decide (k=3)&&decide ((110:UInt8)∈o)&&decide ((zR f b p false).2=0)&&decide ((zf (zR f b p false).1.ino f.xs).kind=3)
def zic (f:FsV) (b:Lz) (k:Int) (o:Lz) (ops:List Lz):Bool:=
 !decide (ops.length<2)&&!decide ((84:UInt8)∈o)&&!ziw f b k o (ops.getLastD [])&&Gx f b (ops.getLastD [])
def JL (f:FsV) (b:Lz) (k:Int) (o:Lz) (ops:List Lz):Option (List Lz):=
 if ops.length=1 then some [ZP (ops.headD [])] else if zic f b k o ops then some (ops.dropLast.map fun p=>V6 (ops.getLastD []) (ZP p))
 else if ops.length=2 then some [ops.getLastD []] else none
theorem ud (p:Lz):(ZP p).length<=p.length+1:=by
 unfold ZP;rcases Ar (zp p) with e | ⟨l,x,e⟩
 ·rw[e];show (if Lib.hasPrefix p [47] then [47] else ([]:Lz)).length<=_;split<;>simp
 ·have:=(Qz p).2 x (by rw[e,Ae];simp);rw[e,Ae,List.getLastD_concat];omega
theorem zda {b:Lz} {k:Int} {o:Lz} {ops ps:List Lz} (h:JL f b k o ops=some ps) (hp:∀ x∈ops,x.length<=1000):ps.length<=ops.length/\∀ x∈ps,x.length<=2003:=by
 have hl:(ops.getLastD []).length<=1000:=by
  rcases Ar ops with e | ⟨l,x,e⟩
  ·rw[e];exact Wb _
  ·rw[e,Ae,Bm,BN];simp;exact hp x (by rw[e];simp)
 unfold JL at h;split at h
 ·cases h;have hh:(ops.headD []).length<=1000:=by
   cases ops with
   | nil=>exact Wb _
   | cons x r=>exact hp x Wk
  have:=ud (ops.headD []);exact ⟨by simp;omega,fun x hx=>by rw[W0.1 hx];omega⟩
 split at h
 ·cases h;refine ⟨by simp,fun x hx=>?_⟩;obtain ⟨y,hy,rfl⟩:=WV.1 hx;have h1:=hp y (List.dropLast_subset _ hy);have h2:=ud y;generalize ops.getLastD []=z at *;unfold V6;split<;>simp<;>omega
 split at h
 ·cases h;exact ⟨by simp;omega,fun x hx=>by rw[W0.1 hx];omega⟩
 ·cases h
def Ms (xs:List zn):Nat->Int->Int->Bool
 | 0,_,_=>false
 | m+1,d,o=>if d=o then true else if d=1 then false else Ms xs m (zf d xs).parent o
end
section
def Ga (p:Lz):OpV:=⟨7,0,p,[],[]⟩
structure zuP (f g:FsV):Prop where
 es:∀ n e,e∈(zf n g.xs).es->e∈(zf n f.xs).es
 has:∀ n,zl n g.xs=true->zl n f.xs=true/\(zf n g.xs).kind=(zf n f.xs).kind
def zsK (f g:FsV) (n d:Int):Prop:=∀ y,zl y f.xs=true->(zf y f.xs).kind=2->y≠d->¬Bel f.xs n y->zl y g.xs=true/\(zf y g.xs).kind=2/\(zf y g.xs).es=(zf y f.xs).es
theorem zgl (hi:FsI f) {s:zB} (hs:zm f s) (he:(zf s.ino f.xs).es = []):zuP f (zk f s)/\zsK f (zk f s) s.ino s.dir/\zl s.dir (zk f s).xs=true/\(zf s.dir (zk f s).xs).kind=2/\(zf s.dir (zk f s).xs).es=zg s.name (zf s.dir f.xs).es:=by
 have hh:=zm.ino hi hs;have hx:=zj hh;have hd:=zj hs.has;have hne:s.dir≠s.ino:=fun e=>by
  have:=(zK hs.there).2;rw[e,he]at this;cases this
 have hhas:=Q7 hs.has hh
 -- what is there behind it
 have hgot:∀ m,zl m (zk f s).xs=true->(zf m (zk f s).xs).kind=(zf m f.xs).kind/\(zf m (zk f s).xs).es=if m=s.dir then zg s.name (zf s.dir f.xs).es else (zf m f.xs).es:=fun m hm=>by
  unfold zk at hm ⊢;by_cases hl:(zf s.ino f.xs).links-1=0
  ·rw[if_pos hl]at hm ⊢;have hm:zl m (zY _ _)=true:=hm;show (zf m (zY _ _)).kind=_/\(zf m (zY _ _)).es=_;rw[J2]at hm;have hmn:m≠s.ino:=fun e=>by rw[e]at hm;simp at hm
   rw[QJ,if_neg hmn,jk hs.has];by_cases q:s.dir=m
   ·rw[if_pos q,if_pos q.symm];subst q;exact ⟨rfl,rfl⟩
   ·rw[if_neg q,if_neg fun e=>q e.symm];exact ⟨rfl,rfl⟩
  ·rw[if_neg hl];show (zf m (qd _ _)).kind=_/\(zf m (qd _ _)).es=_;rw[qq];split
   ·rename_i e;have e:(zf s.ino f.xs).ino=m:=e;rw[hx.2.2]at e;subst e;rw[if_neg fun e=>hne e.symm];exact ⟨rfl,rfl⟩
   ·rw[jk hs.has];by_cases q:s.dir=m
    ·rw[if_pos q,if_pos q.symm];subst q;exact ⟨rfl,rfl⟩
    ·rw[if_neg q,if_neg fun e=>q e.symm];exact ⟨rfl,rfl⟩
 have hsub:∀ m,zl m (zk f s).xs=true->zl m f.xs=true:=fun m hm=>by
  rw[hhas]at hm;split at hm
  ·rw[Wp]at hm;exact hm.2
  ·exact hm
 have hstay:∀ m,zl m f.xs=true->m≠s.ino->zl m (zk f s).xs=true:=fun m hm hn=>by
  rw[hhas];split
  ·rw[hm,Wj hn];rfl
  ·exact hm
 refine ⟨⟨fun n e hee=>?_,fun n hn=>⟨hsub n hn,(hgot n hn).1⟩⟩,fun y y1 y2 y3 y4=>?_,hstay _ hs.has hne,?_,?_⟩
 ·cases hn:zl n (zk f s).xs with
  | false=>rw[(JI hn).2]at hee;cases hee
  | true =>
   rw[(hgot n hn).2]at hee;split at hee
   ·subst_vars;exact (qK hee).1
   ·exact hee
 ·have hyn:y≠s.ino:=fun e=>y4 (by rw[e];exact .refl);have h1:=hstay y y1 hyn;obtain ⟨q1,q2⟩:=hgot y h1;rw[if_neg y3]at q2;exact ⟨h1,q1.trans y2,q2⟩
 ·rw[(hgot _ (hstay _ hs.has hne)).1];exact hs.kind
 ·rw[(hgot _ (hstay _ hs.has hne)).2,if_pos rfl]
end
section
def mvS (f:FsV) (b u v:Lz):Option (Int×Int):=
 if (zR f b u false).2≠0 then some (11,(zR f b u false).2) else if zl (zR f b u false).1.ino f.xs=false then some (11,1) else if (zR f b u false).1.name = [] then some (15,10)
 else if (zR f b v false).2≠0 then some (15,(zR f b v false).2) else if (zR f b v false).1.name = [] then some (15,10) else none
def mvJ (f:FsV) (o:Lz) (a t:zB) (v:Lz):(Int×Int)×Bool:=
 if zl t.ino f.xs=true/\(110:UInt8)∈o then ((0,0),false)
 else if zl t.ino f.xs=true/\a.ino=t.ino then ((9,0),false)
 else if (zf a.ino f.xs).kind=2/\Ms f.xs f.xs.length t.dir a.ino=true then ((14,0),false)
 else if zl t.ino f.xs=true then
  (if (zf a.ino f.xs).kind=2/\(zf t.ino f.xs).kind≠2 then ((12,0),false) else if (zf a.ino f.xs).kind≠2/\(zf t.ino f.xs).kind=2 then ((13,0),false) else ((15,5),decide ((zf t.ino f.xs).es = [])))
 else if jO v=true/\(zf a.ino f.xs).kind≠2 then ((15,3),false) else if may t.name=false then ((15,9),false) else ((0,0),true)
def JT (p q:Lz):OpV:=⟨6,0,p,q,[]⟩
def zl4 (d:zX) (a t:zB):zX:=
 (Qe (if zl t.ino d.w.fs.xs then (Qe d (Ga (qp d.w.fs t))).1 else d) (JT (qp d.w.fs a) (qp d.w.fs t))).1
def Z6 (b o:Lz) (d:zX) (u v:Lz):zX:=
 match mvS d.w.fs b u v with
 | some e=>YJ d (Qb 4 e.1 u v e.2)
 | none =>
  if (mvJ d.w.fs o (zR d.w.fs b u false).1 (zR d.w.fs b v false).1 v).2 then zl4 d (zR d.w.fs b u false).1 (zR d.w.fs b v false).1
  else if (mvJ d.w.fs o (zR d.w.fs b u false).1 (zR d.w.fs b v false).1 v).1.1=0 then d
  else YJ d (Qb 4 (mvJ d.w.fs o (zR d.w.fs b u false).1 (zR d.w.fs b v false).1 v).1.1 u v (mvJ d.w.fs o (zR d.w.fs b u false).1 (zR d.w.fs b v false).1 v).1.2)
def zj9 (b o:Lz) (l:List (Lz×Lz)) (d:zX):zX:=l.foldl (fun d p=>Z6 b o d p.1 p.2) d
def zdV (k:Int) (b o:Lz) (ops:List Lz) (d:zX):zX:=
 match JL d.w.fs b k o ops with
 | none=>YJ d (Qb k 10 (ops.getLastD []) [] 0)
 | some ps=>zj9 b o (ops.zip ps) d
theorem zqa (h:GrD N d) (a t:zB):GrD (N+2) (zl4 d a t):=by
 unfold zl4;have h1:GrD (N+1) (if zl t.ino d.w.fs.xs then (Qe d (Ga (qp d.w.fs t))).1 else d):=by
  split
  ·exact h.add (Wb _) (show ¬(7:Int)=3 by decide)
  ·exact h.mono (Nat.le_succ _)
 exact h1.add (Wb _) (show ¬(6:Int)=3 by decide)
theorem zpb (h:GrD N d) (b o u v:Lz):GrD (N+2) (Z6 b o d u v):=by
 unfold Z6;split
 ·exact (h.tell _).mono (by omega)
 ·split
  ·exact zqa h _ _
  ·split
   ·exact h.mono (by omega)
   ·exact (h.tell _).mono (by omega)
theorem zmm {b u:Lz} (h:mvS f b u v=none):(zR f b u false).2=0/\zl (zR f b u false).1.ino f.xs=true/\(zR f b u false).1.name≠[]/\(zR f b v false).2=0/\(zR f b v false).1.name≠[]:=by
 unfold mvS at h;by_cases h1:(zR f b u false).2≠0
 ·rw[if_pos h1]at h;cases h
 rw[if_neg h1]at h;by_cases h2:zl (zR f b u false).1.ino f.xs=false
 ·rw[if_pos h2]at h;cases h
 rw[if_neg h2]at h;by_cases h3:(zR f b u false).1.name = []
 ·rw[if_pos h3]at h;cases h
 rw[if_neg h3]at h;by_cases h4:(zR f b v false).2≠0
 ·rw[if_pos h4]at h;cases h
 rw[if_neg h4]at h;by_cases h5:(zR f b v false).1.name = []
 ·rw[if_pos h5]at h;cases h
 exact ⟨WB.1 h1,by simpa using h2,h3,WB.1 h4,h5⟩
theorem zmA {o:Lz} {t:zB} (h:(mvJ f o a t v).2=true):(zl t.ino f.xs=true->a.ino≠t.ino/\(zf t.ino f.xs).es = []/\((zf a.ino f.xs).kind=2↔(zf t.ino f.xs).kind=2))/\(zl t.ino f.xs=false->may t.name=true/\(jO v=true->(zf a.ino f.xs).kind=2))/\((zf a.ino f.xs).kind=2->Ms f.xs f.xs.length t.dir a.ino=false):=by
 unfold mvJ at h;by_cases h1:zl t.ino f.xs=true/\(110:UInt8)∈o
 ·rw[if_pos h1]at h;cases h
 rw[if_neg h1]at h;by_cases h2:zl t.ino f.xs=true/\a.ino=t.ino
 ·rw[if_pos h2]at h;cases h
 rw[if_neg h2]at h;by_cases h3:(zf a.ino f.xs).kind=2/\Ms f.xs f.xs.length t.dir a.ino=true
 ·rw[if_pos h3]at h;cases h
 rw[if_neg h3]at h;have g3:(zf a.ino f.xs).kind=2->Ms f.xs f.xs.length t.dir a.ino=false:=fun q=>by
  cases hq:Ms f.xs f.xs.length t.dir a.ino with
  | false=>rfl
  | true=>exact absurd ⟨q,hq⟩ h3
 by_cases h4:zl t.ino f.xs=true
 ·rw[if_pos h4]at h;by_cases h5:(zf a.ino f.xs).kind=2/\(zf t.ino f.xs).kind≠2
  ·rw[if_pos h5]at h;cases h
  rw[if_neg h5]at h;by_cases h6:(zf a.ino f.xs).kind≠2/\(zf t.ino f.xs).kind=2
  ·rw[if_pos h6]at h;cases h
  rw[if_neg h6]at h;refine ⟨fun _=>⟨fun q=>h2 ⟨h4,q⟩,WP h,⟨fun q=>OM fun z=>h5 ⟨q,z⟩,fun q=>OM fun z=>h6 ⟨z,q⟩⟩⟩,fun q=>(by rw[h4]at q;cases q),g3⟩
 ·rw[if_neg h4]at h;by_cases h5:jO v=true/\(zf a.ino f.xs).kind≠2
  ·rw[if_pos h5]at h;cases h
  rw[if_neg h5]at h;by_cases h6:may t.name=false
  ·rw[if_pos h6]at h;cases h
  exact ⟨fun q=>absurd q h4,fun _=>⟨by simpa using h6,fun q=>OM fun z=>h5 ⟨q,z⟩⟩,g3⟩
theorem zpX {b u:Lz} {e:Int×Int} (h:mvS f b u v=some e):e.1≠0:=by
 unfold mvS at h;split at h
 ·cases h;exact show ¬(11:Int)=0 by decide
 split at h
 ·cases h;exact show ¬(11:Int)=0 by decide
 split at h
 ·cases h;exact show ¬(15:Int)=0 by decide
 split at h
 ·cases h;exact show ¬(15:Int)=0 by decide
 split at h
 ·cases h;exact show ¬(15:Int)=0 by decide
 ·cases h
end
section
theorem J4 {n m:Lz} (h:m≠n) (es:List zN):qz zN.name m (zg n es)=qz zN.name m es:=by
 unfold zg jh qz
 induction es with
 | nil=>rfl
 | cons e r ih =>
  rw[O4];by_cases q:e.name=n
  ·rw[if_neg (by simpa using q),ih,Ao (by rw[q];simpa using fun z=>h z.symm)]
  ·rw[if_pos (by simpa using q)];by_cases z:e.name=m
   ·rw[AC (by simpa using z),AC (by simpa using z)]
   ·rw[Ao (by simpa using z),Ao (by simpa using z),ih]
theorem zjy {x y:Int} (he:(zf x xs).es = []) (h:Bel xs x y):y=x:=by
 induction h with
 | refl=>rfl
 | step a b c ih =>
  obtain ⟨e,he2,_⟩:=c;rw[ih,he]at he2;cases he2
theorem kI (hi:FsI f) {s:zB} (hs:zm f s) (he:(zf s.ino f.xs).es = []) {y:Int} (hh:zl y f.xs=true) (hk:(zf y f.xs).kind=2) (hy:y≠s.ino):zl y (zk f s).xs=true/\(zf y (zk f s).xs).kind=2/\(zf y (zk f s).xs).es=if y=s.dir then zg s.name (zf y f.xs).es else (zf y f.xs).es:=by
 obtain ⟨_,h2,h3,h4,h5⟩:=zgl hi hs he;by_cases q:y=s.dir
 ·subst q;rw[if_pos rfl];exact ⟨h3,h4,h5⟩
 ·rw[if_neg q];exact h2 y hh hk q fun z=>hy (zjy he z)
theorem MH (hi:FsI f) {s:zB} (hs:zm f s) (he:(zf s.ino f.xs).es = []) {ns:List Lz} {n:Int} (h:YS f.xs ns n):n≠s.ino->YS (zk f s).xs ns n:=by
 induction h with
 | root=>exact fun _=>.root
 | step a b c e ih =>
  rename_i ns y n m;intro hn;have hm:=(zK e).2;have hy:y≠s.ino:=fun q=>by rw[q,he]at hm;cases hm
  obtain ⟨q1,q2,q3⟩:=kI hi hs he b c hy;refine .step (ih hy) q1 q2 ?_;rw[q3];split
  ·rename_i q;subst q;rw[J4 (fun z=>hn ?_),e];have:=hs.there;rw[←z,e]at this;exact Wu zN.ino (Option.some.inj this)
  ·exact e
theorem zc1 (hi:FsI f) {s a:zB} (hs:zm f s) (he:(zf s.ino f.xs).es = []) (ha:zm f a) (hn:a.ino≠s.ino):zm (zk f s) a/\a.dir≠s.ino:=by
 have hm:=(zK ha.there).2;have hy:a.dir≠s.ino:=fun q=>by rw[q,he]at hm;cases hm
 obtain ⟨q1,q2,q3⟩:=kI hi hs he ha.has ha.kind hy;refine ⟨⟨q1,q2,?_⟩,hy⟩;rw[q3];split
 ·rename_i q;rw[J4 (fun z=>hn ?_)]
  ·exact ha.there
  ·have h1:=ha.there;have h2:=hs.there;rw[q,z]at h1;rw[h1]at h2;exact Wu zN.ino (Option.some.inj h2)
 ·exact ha.there
theorem xi (hi:FsI f) {s:zB} (hs:zm f s) (he:(zf s.ino f.xs).es = []):qX (zk f s) ⟨s.dir,s.name,0⟩/\s.dir≠s.ino:=by
 have hm:=(zK hs.there).2;have hy:s.dir≠s.ino:=fun q=>by rw[q,he]at hm;cases hm
 obtain ⟨q1,q2,q3⟩:=kI hi hs he hs.has hs.kind hy;refine ⟨⟨q1,q2,?_⟩,hy⟩;show Yj s.name (zf s.dir (zk f s).xs).es=false;rw[q3,if_pos rfl];unfold Yj Js;rw[W5];intro e he2 q;exact (qK he2).2 (by simpa using q)
theorem XO {x:Int} (h:YS xs ns x):∀ {y:Int},YS xs ns y->x=y:=by
 induction h with
 | root =>
  intro y h;rcases h.inv with ⟨_,e⟩ | ⟨ms,z,m,e,_⟩
  ·exact e.symm
  ·simp at e
 | step a b c e ih =>
  intro y h;rcases h.inv with ⟨e2,_⟩ | ⟨ms,z,m,e2,h1,h2,h3,h4⟩
  ·simp at e2
  ·obtain ⟨rfl,e3⟩:=AX e2 rfl;cases e3;have:=ih h1;subst this;rw[e]at h4;exact Wu zN.ino (Option.some.inj h4)
theorem zbl {α:Type} {P:List α->Prop} (nil:P []) (snoc:∀ l x,P l->P (l++[x])) (l:List α):P l:=by
 rw[←List.reverse_reverse l]
 induction l.reverse with
 | nil=>exact nil
 | cons x r ih=>rw[List.reverse_cons];exact snoc _ _ ih
theorem zba:∀ (r A:List Lz) {n:Int},YS xs (A++r) n->∃ y,YS xs A y/\(r≠[]->(zf y xs).kind=2/\(zf y xs).es≠[]):=by
 intro r
 induction r using zbl with
 | nil=>intro A n h;rw[W2]at h;exact ⟨n,h,fun q=>absurd rfl q⟩
 | snoc r m ih =>
  intro A n h;rw[←WH]at h;rcases h.inv with ⟨e,_⟩ | ⟨ms,z,m2,e,h1,h2,h3,h4⟩
  ·simp at e
  ·obtain ⟨rfl,_⟩:=AX e rfl;obtain ⟨y,y1,y2⟩:=ih A h1;refine ⟨y,y1,fun _=>?_⟩;by_cases hr:r = []
   ·subst hr;rw[W2]at h1;rw[XO y1 h1];exact ⟨h3,fun q=>by have:=(zK h4).2;rw[q]at this;cases this⟩
   ·exact y2 hr
theorem zlO (h:YS xs ns n):Dep xs ns.length n:=by
 induction h with
 | root=>exact .root
 | step a b c e ih =>
  rw[Wn,Om];exact .step ih b (zK e).2
theorem zjU (hok:okM f) (hi:FsI f) (hr:FsR f) {A:List Lz} {y:Int} (hA:YS f.xs A y):∀ (r:List Lz) {d:Int} (m:Nat),YS f.xs (A++r) d->(zf d f.xs).kind=2->A.length+r.length<m->Ms f.xs m d y=true:=by
 intro r
 induction r using zbl with
 | nil =>
  intro d m h hk hm;rw[W2]at h;obtain ⟨m,rfl⟩:∃ q,m=q+1:=⟨m-1,by omega⟩;unfold Ms;rw[if_pos (XO h hA)]
 | snoc r q ih =>
  intro d m h hk hm;rw[Wn,Om]at hm;obtain ⟨m,rfl⟩:∃ q,m=q+1:=⟨m-1,by omega⟩;rw[←WH]at h;rcases h.inv with ⟨e,_⟩ | ⟨ms,z,m2,e,h1,h2,h3,h4⟩
  ·simp at e
  ·obtain ⟨rfl,_⟩:=AX e rfl;have hin:=(zK h4).2;obtain ⟨rk,hed⟩:=hr.edge;have gz:=zj h2;have hp:=(hed _ gz.2.1 _ hin hk).1;rw[gz.2.2]at hp;have hp:(zf d f.xs).parent=z:=hp;have h1d:d≠1:=jQ hok h2 hin;unfold Ms;by_cases hd:d=y
   ·rw[if_pos hd]
   ·rw[if_neg hd,if_neg h1d,hp];exact ih m h1 h3 (by omega)
theorem za9 (hok:okM f) (hi:FsI f) (hr:FsR f) {a t:zB} (ha:zm f a) {nA nT:List Lz} (hA:YS f.xs nA a.dir) (hT:YS f.xs nT t.dir) (hTh:zl t.dir f.xs=true) (hTk:(zf t.dir f.xs).kind=2)
  (ht:∀ x,qz zN.name t.name (zf t.dir f.xs).es=some ⟨t.name,x⟩->x≠a.ino/\(zf x f.xs).es = []) (hins:(zf a.ino f.xs).kind=2->Ms f.xs f.xs.length t.dir a.ino=false) (vA:∀ z∈nA,may z=true) (vT:∀ z∈nT,may z=true) (ma:may a.name=true) (mt:may t.name=true) :
  Jf (qC (nA++[a.name])) (qC (nT++[t.name]))=false/\Jf (qC (nT++[t.name])) (qC (nA++[a.name]))=false:=by
 have nmA:∀ z∈nA++[a.name],ZK z:=fun z hz=>by
  rcases WC.1 hz with q | q
  ·exact JW (vA z q)
  ·rw[W0.1 q];exact JW ma
 have nmT:∀ z∈nT++[t.name],ZK z:=fun z hz=>by
  rcases WC.1 hz with q | q
  ·exact JW (vT z q)
  ·rw[W0.1 q];exact JW mt
 have hsame:nA++[a.name]≠nT++[t.name]:=fun e=>by
  obtain ⟨rfl,e2⟩:=AX e rfl;have e2:a.name=t.name:=by simpa using e2
  have hd:=XO hA hT;have:=ha.there;rw[hd,e2]at this;exact (ht _ this).1 rfl
 rw[XW _ _ nmA nmT,XW _ _ nmT nmA];refine ⟨Wj fun q=>?_,Wj fun q=>?_⟩
 ·have e:nA++[a.name]=(nT++[t.name])++(nA++[a.name]).drop (nT++[t.name]).length:=by
   conv=>lhs;rw[←Od (nT++[t.name]).length (nA++[a.name]),q]
  generalize (nA++[a.name]).drop (nT++[t.name]).length=r at e;rcases Ar r with e0 | ⟨r',x,e0⟩
  ·rw[e0,W2]at e;exact hsame e
  ·rw[e0,Ae,←WH]at e;obtain ⟨e1,_⟩:=AX e rfl;rw[e1]at hA;obtain ⟨y,y1,y2⟩:=zba r' _ hA;have hes:(zf y f.xs).es≠[]:=by
    by_cases hr':r' = []
    ·rw[hr',W2]at hA;rw[XO y1 hA];exact fun z=>by have:=(zK ha.there).2;rw[z]at this;cases this
    ·exact (y2 hr').2
   rcases y1.inv with ⟨z,_⟩ | ⟨ms,z,m2,e2,h1,h2,h3,h4⟩
   ·simp at z
   ·obtain ⟨rfl,e3⟩:=AX e2 rfl;cases e3;rw[←XO hT h1]at h4;exact hes (ht _ h4).2
 ·have e:nT++[t.name]=(nA++[a.name])++(nT++[t.name]).drop (nA++[a.name]).length:=by
   conv=>lhs;rw[←Od (nA++[a.name]).length (nT++[t.name]),q]
  generalize (nT++[t.name]).drop (nA++[a.name]).length=r at e;rcases Ar r with e0 | ⟨r',x,e0⟩
  ·rw[e0,W2]at e;exact hsame e.symm
  ·rw[e0,Ae,←WH]at e;obtain ⟨e1,_⟩:=AX e rfl;have hLa:YS f.xs (nA++[a.name]) a.ino:=.step hA ha.has ha.kind ha.there;rw[e1]at hT;have hka:(zf a.ino f.xs).kind=2:=by
    obtain ⟨y,y1,y2⟩:=zba r' _ hT;rw[XO hLa y1];by_cases hr':r' = []
    ·rw[hr',W2]at hT;rw[XO y1 hT];exact hTk
    ·exact (y2 hr').1
   have hlt:=zbG hok (zlO hT) hTh hTk;rw[Wn]at hlt;have:=zjU hok hi hr hLa r' f.xs.length hT hTk hlt;rw[hins hka]at this;cases this
end
section
structure MvC (N:Nat) (d:zX):Prop where
 g:GrD N d
 kept:∀ k∈d.w.kept,k.slot<=d.slot
 sl:d.slot<=536870912+N
 stat:(d.status=1)↔0<d.diags.length
theorem MvC.mono {M:Nat} (h:MvC N d) (hN:N<=M):MvC M d:=⟨h.g.mono hN,h.kept,by have:=h.sl;omega,h.stat⟩
theorem MvC.tell (h:MvC N d) (x:Lz):MvC (N+1) (YJ d x):=⟨h.g.tell x,h.kept,by have:=h.sl;show d.slot<=_;omega,⟨fun _=>by show 0<(d.diags++[x]).length;simp,fun _=>rfl⟩⟩
theorem xq (h:MvC N d) (hN:N<=3000) {s:zB} (hs:zm d.w.fs s) (he:(zf s.ino d.w.fs.xs).es = []) {p:Lz} (hp:z8 p=true) (ha:atV d.w.fs p=(s,0)) :
  Vd (d.slot+1) d.w.kept=false/\Y6 ⟨7,d.slot+1,p,[],[]⟩=true/\Qe d (Ga p)=(⟨(qL d.w (d.slot+1) s).1,d.ops++[⟨7,d.slot+1,p,[],[]⟩],d.diags,d.status,d.slot+1⟩,0):=by
 have hsl:=h.g.b.slot.1;have hsm:=h.sl;have hh:=zm.ino h.g.b.wi.fs hs;have eo:Zz d (Ga p)=⟨7,d.slot+1,p,[],[]⟩:=rfl;have hm:Y6 ⟨7,d.slot+1,p,[],[]⟩=true:=by
  unfold Y6;have e1:qR 7=true:=rfl;have e2:zoD 7=false:=rfl;simp only[hp,e1,e2,if_true,Wp,WW];refine ⟨⟨⟨⟨⟨⟨by decide,by decide⟩,trivial⟩,by omega,by omega⟩,by simp⟩,by simp⟩,by simp⟩
 have hi:isV d.w.fs p true=(s,zf s.ino d.w.fs.xs,0):=by
  unfold isV;simp only[ha,hh];simp
 have hns:Vd (d.slot+1) d.w.kept=false:=by
  unfold Vd Js;rw[W5];intro k hk q;have:=h.kept k hk;have q:k.slot=d.slot+1:=by simpa using q
  omega
 have hk0:(qL d.w (d.slot+1) s).2=0:=by unfold qL;rw[hns];rfl
 have hdo:doV d.w ⟨7,d.slot+1,p,[],[]⟩=qL d.w (d.slot+1) s:=by
  unfold doV;rw[hm];simp only[Av,WX,Oh];rw[if_neg (by decide),if_neg (by decide),if_neg (by decide),if_neg (by decide),if_neg (by decide),if_neg (by decide)];unfold qT;simp only[hi];rw[if_neg (fun q=>q rfl),if_neg (fun q=>q he)]
 refine ⟨hns,hm,?_⟩;unfold Qe;rw[if_neg (by show ¬(7:Int)<7;decide),eo,hdo,if_neg (fun q=>q hk0),if_pos (by show 0<d.slot+1;omega)]
theorem U9 (h:MvC N d) (hN:N<=3000) {s:zB} (hs:zm d.w.fs s) (he:(zf s.ino d.w.fs.xs).es = []) {p:Lz} (hp:z8 p=true) (ha:atV d.w.fs p=(s,0)) :
  (Qe d (Ga p)).1.w.fs=zk d.w.fs s/\MvC (N+1) (Qe d (Ga p)).1/\(Qe d (Ga p)).1.diags=d.diags:=by
 have hsm:=h.sl;obtain ⟨hns,_,ea⟩:=xq h hN hs he hp ha;have hG:=h.g.add (o:=Ga p) (Wb _) (show ¬(7:Int)=3 by decide);rw[ea]at hG ⊢;have ek:(qL d.w (d.slot+1) s).1=⟨zk d.w.fs s,qw ⟨d.slot+1,s.ino,false,[]⟩ d.w.kept,if (zf s.ino d.w.fs.xs).links=1 then qd { zf s.ino d.w.fs.xs with links:=0,parent:=0 } d.w.pool else d.w.pool⟩:=by unfold qL;rw[hns];rfl
 refine ⟨by rw[ek],⟨hG,fun k hk=>?_,by show d.slot+1<=536870912+((N+1:Nat):Int);omega,h.stat⟩,rfl⟩;have hk:k∈(qL d.w (d.slot+1) s).1.kept:=hk;rw[ek]at hk;show k.slot<=d.slot+1;rcases JH.1 hk with rfl | hk
 ·exact O0 _
 ·have:=h.kept k hk;omega
theorem zjT (d:zX) {a t:zB} {p q:Lz} (hp:z8 p=true) (hq:z8 q=true) (hap:atV d.w.fs p=(a,0)) (htq:atV d.w.fs q=(t,0)) (ha:zl a.ino d.w.fs.xs=true) (ht:zl t.ino d.w.fs.xs=false) (u1:Jf p q=false) (u2:Jf q p=false) :
  Qe d (JT p q)=(⟨{ d.w with fs:=qn d.w.fs a t },d.ops++[JT p q],d.diags,d.status,d.slot⟩,0):=by
 have e:Zz d (JT p q)=JT p q:=rfl;have hm:Y6 (JT p q)=true:=by
  unfold Y6 JT;have e1:qR 6=false:=rfl;have e2:zoD 6=true:=rfl;simp only[hp,hq,e1,e2,u1,u2]
  rfl
 have h1:(isV d.w.fs p true).1=a/\(isV d.w.fs p true).2.2=0:=by
  unfold isV;simp only[hap,ha];simp
 have h2:(isV d.w.fs q false).1=t/\(isV d.w.fs q false).2.2=0:=by
  unfold isV;simp only[htq,ht];simp
 have hdo:doV d.w (JT p q)=({ d.w with fs:=qn d.w.fs a t },0):=by
  unfold doV;rw[hm];show J1 d.w (JT p q)=_;have a1:(JT p q).a=p:=rfl;have a2:(JT p q).b=q:=rfl;unfold J1;rw[a1,a2,if_neg (fun z=>z h1.2),if_neg (fun z=>z h2.2),h1.1,h2.1]
 unfold Qe;rw[if_neg (show ¬7<(JT p q).kind by show ¬(7:Int)<6;decide),e,hdo]
 rfl
end
section
theorem yE {α κ:Type} [DecidableEq κ] {key:α->κ} (n:κ) (xs:List α):Js key n (jh key n xs)=false:=by
 unfold Js;rw[W5];intro y hy;simpa using (QI.1 hy).2
theorem kF {α κ:Type} [DecidableEq κ] {o:ziH κ} {key:α->κ} {m:κ} {x:α}:∀ {xs:List α},Js key (key x) xs=false->qz key m (YY o key x xs)=if key x=m then some x else qz key m xs
 | [],_=>by
  show List.find? _ [x]=_;rw[OW];by_cases h:key x=m
  ·rw[if_pos h,Wm h]
  ·rw[if_neg h,Wj h];rfl
 | y :: r,h=>by
  unfold Js at h;rw[AN,AO]at h;have hy:key y≠key x:=by simpa using h.1
  have ih:=kF (o:=o) (m:=m) (x:=x) (xs:=r) h.2;unfold YY;split
  ·show List.find? _ (x :: y :: r)=_;rw[OW];by_cases h:key x=m
   ·rw[if_pos h,Wm h]
   ·rw[if_neg h,Wj h];rfl
  ·unfold qz at ih ⊢;rw[OW,OW];by_cases q:key y=m
   ·rw[Wm q,if_neg (fun z=>hy (q.trans z.symm))]
   ·rw[Wj q];exact ih
theorem xv {n m:Lz} {i:Int} (es:List zN):qz zN.name m (zQ n i es)=if n=m then some ⟨n,i⟩ else qz zN.name m es:=by
 unfold zQ;rw[kF (x:=(⟨n,i⟩:zN)) (yE n es)];by_cases h:n=m
 ·rw[if_pos h,if_pos h]
 ·rw[if_neg h,if_neg h];exact J4 (fun q=>h q.symm) es
theorem zit (n:Lz) (es:List zN):qz zN.name n (zg n es)=none:=by
 have:=yE (key:=zN.name) n es;rw[qg]at this;unfold zg;cases h:qz zN.name n (jh zN.name n es) with
 | none=>rfl
 | some e=>rw[h]at this;cases this
theorem zeG (hi:FsI f) (ha:zm f a) (hb:qX f b) (y:Int) :
  zf y (qn f a b).xs = { zf y f.xs with es:=if b.dir=y then zQ b.name a.ino (if a.dir=y then zg a.name (zf y f.xs).es else (zf y f.xs).es) else if a.dir=y then zg a.name (zf y f.xs).es else (zf y f.xs).es,parent:=if a.ino=y/\(zf y f.xs).kind=2 then b.dir else (zf y f.xs).parent }:=by
 have hb1:zl b.dir (qe a.dir (zg a.name) f.xs)=true:=by rw[zM ha.has];exact hb.has
 have hh:zl a.ino (qe b.dir (zQ b.name a.ino) (qe a.dir (zg a.name) f.xs))=true:=by rw[zM hb1,zM ha.has];exact zm.ino hi ha
 have hg:zf y (qe b.dir (zQ b.name a.ino) (qe a.dir (zg a.name) f.xs)) = { zf y f.xs with es:=if b.dir=y then zQ b.name a.ino (if a.dir=y then zg a.name (zf y f.xs).es else (zf y f.xs).es) else if a.dir=y then zg a.name (zf y f.xs).es else (zf y f.xs).es }:=by
  rw[jk hb1];by_cases h1:b.dir=y
  ·rw[if_pos h1,if_pos h1,jk ha.has,h1];by_cases h2:a.dir=y
   ·rw[if_pos h2,if_pos h2,h2]
   ·rw[if_neg h2,if_neg h2]
  ·rw[if_neg h1,if_neg h1,jk ha.has];by_cases h2:a.dir=y
   ·rw[if_pos h2,if_pos h2,h2]
   ·rw[if_neg h2,if_neg h2]
 have hk:=(vF ha hb a.ino).1;unfold qn;simp only;generalize qe b.dir (zQ b.name a.ino) (qe a.dir (zg a.name) f.xs)=g at hh hg hk;by_cases h0:(zf a.ino g).kind=2
 ·rw[if_pos h0];show zf y (qd _ _)=_;rw[qq];show (if (zf a.ino g).ino=y then { zf a.ino g with parent:=b.dir } else zf y g:zn)=_;have hgi:=(zj hh).2.2;by_cases h3:a.ino=y
  ·subst h3;rw[if_pos hgi,if_pos (show a.ino=a.ino/\(zf a.ino f.xs).kind=2 from ⟨rfl,by rw[←hk];exact h0⟩)];exact Wu (fun z:zn=>{ z with parent:=b.dir }) hg
  ·rw[if_neg (fun q=>h3 (hgi.symm.trans q)),if_neg (show ¬(a.ino=y/\(zf y f.xs).kind=2) from fun q=>h3 q.1)];exact hg
 ·rw[if_neg h0,if_neg (show ¬(a.ino=y/\(zf y f.xs).kind=2) from fun q=>h0 (by rw[hk,q.1];exact q.2))];exact hg
theorem zr4 (hi:FsI f) (ha:zm f a) (hb:qX f b) (y:Int) :
  (zf y (qn f a b).xs).es=if b.dir=y then zQ b.name a.ino (if a.dir=y then zg a.name (zf y f.xs).es else (zf y f.xs).es) else if a.dir=y then zg a.name (zf y f.xs).es else (zf y f.xs).es:=by rw[zeG hi ha hb]
theorem zgY (hi:FsI f) (ha:zm f a) (hb:qX f b) (y:Int) :
  zf y (qn f a b).xs = { zf y f.xs with es:=(zf y (qn f a b).xs).es,parent:=if a.ino=y/\(zf y f.xs).kind=2 then b.dir else (zf y f.xs).parent }:=by rw[zr4 hi ha hb];exact zeG hi ha hb y
theorem zst (hi:FsI f) (ha:zm f a) (hb:qX f b):(qn f a b).xs.length=f.xs.length:=by
 have hb1:zl b.dir (qe a.dir (zg a.name) f.xs)=true:=by rw[zM ha.has];exact hb.has
 have hh:zl a.ino (qe b.dir (zQ b.name a.ino) (qe a.dir (zg a.name) f.xs))=true:=by rw[zM hb1,zM ha.has];exact zm.ino hi ha
 have hR1:zW (qe a.dir (zg a.name) f.xs):=zO hi.rises;have hR2:zW (qe b.dir (zQ b.name a.ino) (qe a.dir (zg a.name) f.xs)):=zO hR1;have hl:(qe b.dir (zQ b.name a.ino) (qe a.dir (zg a.name) f.xs)).length=f.xs.length:=(qV hR1 hb1).trans (qV hi.rises ha.has);unfold qn;simp only;generalize qe b.dir (zQ b.name a.ino) (qe a.dir (zg a.name) f.xs)=g at *;split
 ·exact (Jy hR2 (by show zl (zf a.ino g).ino g=true;rw[(zj hh).2.2];exact hh)).trans hl
 ·exact hl
theorem Zq (hi:FsI f) (ha:zm f a) (hb:qX f b) (y:Int) (m:Lz) :
  qz zN.name m (zf y (qn f a b).xs).es=if b.dir=y/\b.name=m then some ⟨m,a.ino⟩ else if a.dir=y/\a.name=m then none else qz zN.name m (zf y f.xs).es:=by
 have e1:qz zN.name m (if a.dir=y then zg a.name (zf y f.xs).es else (zf y f.xs).es)=if a.dir=y/\a.name=m then none else qz zN.name m (zf y f.xs).es:=by
  by_cases h2:a.dir=y
  ·rw[if_pos h2];by_cases h3:a.name=m
   ·rw[if_pos ⟨h2,h3⟩,←h3];exact zit _ _
   ·rw[if_neg (fun q=>h3 q.2)];exact J4 (fun q=>h3 q.symm) _
  ·rw[if_neg h2,if_neg (fun q=>h2 q.1)]
 rw[zr4 hi ha hb];by_cases h1:b.dir=y
 ·rw[if_pos h1,xv];by_cases h3:b.name=m
  ·rw[if_pos h3,if_pos ⟨h1,h3⟩,h3]
  ·rw[if_neg h3,if_neg (show ¬(b.dir=y/\b.name=m) from fun q=>h3 q.2)];exact e1
 ·rw[if_neg h1,if_neg (show ¬(b.dir=y/\b.name=m) from fun q=>h1 q.1)];exact e1
theorem zeN (hi:FsI f) (hr:FsR f) {a b:zB} (ha:zm f a) (hb:qX f b) {nA:List Lz} (hA:YS f.xs nA a.dir) {ns:List Lz} {n:Int} (h:YS f.xs ns n):(∀ r,ns≠nA++a.name :: r)->YS (qn f a b).xs ns n:=by
 induction h with
 | root=>exact fun _=>.root
 | step h1 h2 h3 h4 ih =>
  rename_i ms y n m;intro hp;obtain ⟨q1,q2⟩:=JE hi ha hb y;refine .step (ih fun r q=>hp (r++[m]) (by rw[q,WH,Of])) (by rw[q1];exact h2) (by rw[q2];exact h3) ?_;rw[Zq hi ha hb,if_neg,if_neg,h4]
  ·rintro ⟨e1,e2⟩;subst e1;have:=YS.one hi hr h1 hA ha.kind;exact hp [] (by rw[this,e2])
  ·rintro ⟨e1,e2⟩;subst e1;have:=hb.free;unfold Yj at this;rw[e2,qg,h4]at this;cases this
theorem zbs {p:Lz} (h:(atV f p).2=0):Jc p=true:=by
 unfold atV at h;by_cases hp:Jc p=true
 ·exact hp
 ·rw[if_neg hp]at h;cases h
theorem zjz (hi:FsI f) (hr:FsR f) {a b:zB} (ha:zm f a) (hb:qX f b) {p q:Lz} (hp:z8 p=true) (hq:z8 q=true) (ap:atV f p=(a,0)) (aq:atV f q=(b,0)) (hu:Jf q p=false) :
  (atV (qn f a b) p=(⟨a.dir,a.name,0⟩,0)/\atV (qn f a b) q=(⟨b.dir,b.name,a.ino⟩,0))/\¬Bel f.xs a.ino a.dir/\¬Bel f.xs a.ino b.dir /\
  ∃ nA nT,zp p=nA++[a.name]/\zp q=nT++[b.name]/\YS f.xs nA a.dir/\YS f.xs nT b.dir/\(∀ r,nT≠nA++a.name :: r)/\may a.name=true/\may b.name=true:=by
 have hmp:=zbs (f:=f) (p:=p) (by rw[ap]);have hmq:=zbs (f:=f) (p:=q) (by rw[aq]);have hu:Jt q p=false:=by rw[←k8 q p hmq hmp];exact hu
 have root:(1:Int)≠0->YS f.xs [] 1/\zl 1 f.xs=true:=fun _=>⟨.root,hi.root⟩;have ea:atW f.xs (zp p) ⟨0,[],1⟩=(a,0):=by rw[←ap];unfold atV;rw[if_pos hmp]
 have eb:atW f.xs (zp q) ⟨0,[],1⟩=(b,0):=by rw[←aq];unfold atV;rw[if_pos hmq]
 have nep:zp p≠[]:=by unfold z8 at hp;simp only[Wp,OQ,Ok]at hp;exact hp.2
 have neq:zp q≠[]:=by unfold z8 at hq;simp only[Wp,OQ,Ok]at hq;exact hq.2
 obtain ⟨nA,l1,l2⟩:=Vh hi (zp p) [] ⟨0,[],1⟩ root (by rw[ea]) nep;obtain ⟨nT,r1,r2⟩:=Vh hi (zp q) [] ⟨0,[],1⟩ root (by rw[eb]) neq;rw[ea]at l1 l2;rw[eb]at r1 r2;have l1:zp p=nA++[a.name]:=l1;have r1:zp q=nT++[b.name]:=r1;have l2:YS f.xs nA a.dir:=l2;have r2:YS f.xs nT b.dir:=r2;have mp:∀ z∈zp p,may z=true:=by unfold Jc at hmp;rw[Wp,Wz]at hmp;exact hmp.2
 have mq:∀ z∈zp q,may z=true:=by unfold Jc at hmq;rw[Wp,Wz]at hmq;exact hmq.2
 have jp:=JU hmp;have jq:=JU hmq;have ma:may a.name=true:=mp _ (by rw[l1];simp);have mt:may b.name=true:=mq _ (by rw[r1];simp);have vA:∀ z∈nA,may z=true:=fun z hz=>mp z (by rw[l1];simp[hz]);have vT:∀ z∈nT,may z=true:=fun z hz=>mq z (by rw[r1];simp[hz]);have pre:∀ r,nT≠nA++a.name :: r:=fun r e=>by
  have:Jt q p=true:=by
   unfold Jt;rw[WW,r1,l1,e];have:nA++a.name :: r++[b.name]=(nA++[a.name])++(r++[b.name]):=by simp
   rw[this,Bi]
  rw[hu]at this;cases this
 have preA:∀ r,nA≠nA++a.name :: r:=fun r e=>by
  have:=Wu List.length e;simp at this
 have la:YS f.xs (nA++[a.name]) a.ino:=.step l2 ha.has ha.kind ha.there;have b1:¬Bel f.xs a.ino a.dir:=fun q=>by
  obtain ⟨r,e⟩:=Bel.lead hi hr la q l2 ha.kind;rw[WH]at e;exact preA r e
 have b2:¬Bel f.xs a.ino b.dir:=fun q=>by
  obtain ⟨r,e⟩:=Bel.lead hi hr la q r2 hb.kind;rw[WH]at e;exact pre r e
 have mi:=NY hi ha hb;obtain ⟨x1,x2⟩:=JE hi ha hb a.dir;obtain ⟨y1,y2⟩:=JE hi ha hb b.dir;obtain ⟨_,kA⟩:=Ho mi (zeN hi hr ha hb l2 l2 preA) (by rw[x1];exact ha.has) (by rw[x2];exact ha.kind) vA ma;obtain ⟨_,kT⟩:=Ho mi (zeN hi hr ha hb l2 r2 pre) (by rw[y1];exact hb.has) (by rw[y2];exact hb.kind) vT mt;rw[←l1,jp]at kA;rw[←r1,jq]at kT;have fA:zT a.name (zf a.dir (qn f a b).xs).es=0:=by
  unfold zT;rw[Zq hi ha hb,if_neg,if_pos ⟨rfl,rfl⟩];rintro ⟨e1,e2⟩;have:=hb.free;unfold Yj at this;rw[e1,e2,qg,ha.there]at this;cases this
 have fT:zT b.name (zf b.dir (qn f a b).xs).es=a.ino:=by
  unfold zT;rw[Zq hi ha hb,if_pos ⟨rfl,rfl⟩]
 rw[fA]at kA;rw[fT]at kT;exact ⟨⟨kA,kT⟩,b1,b2,nA,nT,l1,r1,l2,r2,pre,ma,mt⟩
end
section
theorem zaK {α:Type} {R:α->α->Prop} (ha:∀ a b,R a b->¬R b a):∀ {xs ys:List α},xs.Pairwise R->ys.Pairwise R->(∀ x,x∈xs↔x∈ys)->xs=ys
 | [],[],_,_,_=>rfl
 | [],y :: r,_,_,h=>absurd ((h y).2 Wk) (by simp)
 | x :: r,[],_,_,h=>absurd ((h x).1 Wk) (by simp)
 | x :: xs,y :: ys,h1,h2,h=>by
  rw[Bf]at h1 h2;have e:x=y:=by
   rcases WF.1 ((h x).1 Wk) with q | q
   ·exact q
   rcases WF.1 ((h y).2 Wk) with z | z
   ·exact z.symm
   exact absurd (h1.1 y z) (ha _ _ (h2.1 x q))
  subst e;rw[zaK ha h1.2 h2.2 fun z=>⟨fun q=>?_,fun q=>?_⟩]
  ·rcases WF.1 ((h z).1 (Wl _ q)) with e | e
   ·subst e;exact absurd (h1.1 z q) (ha _ _ (h1.1 z q))
   ·exact e
  ·rcases WF.1 ((h z).2 (Wl _ q)) with e | e
   ·subst e;exact absurd (h2.1 z q) (ha _ _ (h2.1 z q))
   ·exact e
theorem zaL {ys:List zn} (h1:zW xs) (h2:zW ys) (hh:∀ m,zl m xs=zl m ys) (hg:∀ m,zl m xs=true->zf m xs=zf m ys):xs=ys:=by
 have key:∀ {xs ys:List zn},zW xs->(∀ m,zl m xs=zl m ys)->(∀ m,zl m xs=true->zf m xs=zf m ys)->∀ x∈xs,x∈ys:=fun {xs ys} h1 hh hg x hx=>by
  have q:=Ji hx;have g:=zj q;have e:zf x.ino xs=x:=kz h1 g.2.1 hx g.2.2;rw[←e,hg _ q];exact (zj (by rw[←hh];exact q)).2.1
 refine zaK (fun a b q z=>?_) h1 h2 fun x=>⟨key h1 hh hg x,key h2 (fun m=>(hh m).symm) (fun m q=>(hg m (by rw[hh];exact q)).symm) x⟩;have q:a.ino<b.ino:=q;have z:b.ino<a.ino:=z;omega
theorem zaE {es:List zN} (h:Jb es) {e:zN} (he:e∈es):qz zN.name e.name es=some e:=by
 have hx:Yj e.name es=true:=by
  unfold Yj Js;rw[Ou];exact ⟨e,he,by simp⟩
 have h2:=Yo hx;have h3:=zK h2;rw[h2];refine Wu some ?_;obtain ⟨i,hi',ei⟩:=Wt h3.2;obtain ⟨j,hj',ej⟩:=Wt he;have hp:=WR.1 h;rcases Af i j with q | q | q
 ·have:=hp i j hi' hj' q;rw[ei,ej]at this;exact absurd this (by show ¬Op.bytesLess e.name e.name=true;rw[YD];simp)
 ·subst q;rw[←ei,ej]
 ·have:=hp j i hj' hi' q;rw[ei,ej]at this;exact absurd this (by show ¬Op.bytesLess e.name e.name=true;rw[YD];simp)
theorem zbk {xs ys:List zN} (h1:Jb xs) (h2:Jb ys) (h:∀ m,qz zN.name m xs=qz zN.name m ys):xs=ys:=by
 refine zaK (fun a b q z=>?_) h1 h2 fun e=>⟨fun q=>?_,fun q=>?_⟩
 ·have:=jF.tr q z;rw[jF.irr]at this;cases this
 ·have:=zaE h1 q;rw[h]at this;exact (zK this).2
 ·have:=zaE h2 q;rw[←h]at this;exact (zK this).2
theorem zbi {α κ:Type} [DecidableEq κ] {o:ziH κ} {key:α->κ} {x:α}:∀ {xs:List α},Js key (key x) xs=false->jh key (key x) (YY o key x xs)=xs
 | [],_=>by unfold YY jh;simp
 | y :: r,h=>by
  unfold Js at h;rw[AN,AO]at h;have hy:key y≠key x:=by simpa using h.1
  have ih:=zbi (o:=o) (x:=x) (xs:=r) h.2;have hr:r.filter (fun z=>!decide (key z=key x))=r:=by
   rw[Bo];intro z hz;have:=W5.1 h.2 z hz;simpa using this
  unfold YY;split
  ·unfold jh;rw[OH (by simp),Og (by simpa using hy),hr]
  ·unfold jh at ih ⊢;rw[Og (by simpa using hy),ih]
theorem xZ {n:Lz} {i:Int} {es:List zN} (hR:Jb es) (h:qz zN.name n es=some ⟨n,i⟩):zQ n i (zg n es)=es:=by
 refine zbk (QU (Jw hR)) hR fun m=>?_;rw[xv];by_cases q:n=m
 ·rw[if_pos q,←q,h]
 ·rw[if_neg q,J4 (fun z=>q z.symm)]
theorem zgs (hi:FsI f) (hr:FsR f) {a b:zB} (ha:zm f a) (hb:qX f b) :
  zm (qn f a b) ⟨b.dir,b.name,a.ino⟩/\qX (qn f a b) ⟨a.dir,a.name,0⟩/\qn (qn f a b) ⟨b.dir,b.name,a.ino⟩ ⟨a.dir,a.name,0⟩=f:=by
 have mi:=NY hi ha hb;have hne:¬(b.dir=a.dir/\b.name=a.name):=fun ⟨e1,e2⟩=>by
  have:=hb.free;unfold Yj at this;rw[e1,e2,qg,ha.there]at this;cases this
 have ta:zm (qn f a b) ⟨b.dir,b.name,a.ino⟩:=by
  obtain ⟨y1,y2⟩:=JE hi ha hb b.dir;refine ⟨y1.trans hb.has,y2.trans hb.kind,?_⟩;show qz zN.name b.name (zf b.dir (qn f a b).xs).es=_;rw[Zq hi ha hb,if_pos ⟨rfl,rfl⟩]
 have fb:qX (qn f a b) ⟨a.dir,a.name,0⟩:=by
  obtain ⟨y1,y2⟩:=JE hi ha hb a.dir;refine ⟨y1.trans ha.has,y2.trans ha.kind,?_⟩;show Yj a.name (zf a.dir (qn f a b).xs).es=false;unfold Yj;rw[qg,Zq hi ha hb,if_neg hne,if_pos ⟨rfl,rfl⟩]
  rfl
 refine ⟨ta,fb,?_⟩;have mi2:=NY mi ta fb;have hx:(qn (qn f a b) ⟨b.dir,b.name,a.ino⟩ ⟨a.dir,a.name,0⟩).xs=f.xs:=by
  refine zaL mi2.rises hi.rises (fun m=>by rw[(JE mi ta fb m).1,(JE hi ha hb m).1]) fun m hm=>?_;have hm1:zl m (qn f a b).xs=true:=by rw[←(JE mi ta fb m).1];exact hm
  have hm0:zl m f.xs=true:=by rw[←(JE hi ha hb m).1];exact hm1
  have g0:=zj hm0;have e1:(zf m (qn (qn f a b) ⟨b.dir,b.name,a.ino⟩ ⟨a.dir,a.name,0⟩).xs).es=(zf m f.xs).es:=by
   refine zbk (mi2.es _ (zj hm).2.1) (hi.es _ g0.2.1) fun n=>?_;rw[Zq mi ta fb];show (if a.dir=m/\a.name=n then some (⟨n,a.ino⟩:zN) else if b.dir=m/\b.name=n then none else _)=_;by_cases q1:a.dir=m/\a.name=n
   ·rw[if_pos q1,←q1.1,←q1.2];exact ha.there.symm
   rw[if_neg q1];by_cases q2:b.dir=m/\b.name=n
   ·rw[if_pos q2,←q2.1,←q2.2];have:=hb.free;unfold Yj at this;rw[qg]at this;cases hq:qz zN.name b.name (zf b.dir f.xs).es with
    | none=>rfl
    | some e=>rw[hq]at this;cases this
   rw[if_neg q2,Zq hi ha hb,if_neg q2,if_neg q1]
  rw[zgY mi ta fb m,e1,zgY hi ha hb m];by_cases q:a.ino=m/\(zf m f.xs).kind=2
  ·have hp:(zf m f.xs).parent=a.dir:=by
    obtain ⟨rk,hed⟩:=hr.edge;have gd:=zj ha.has;have:=(hed _ gd.2.1 _ (zK ha.there).2 (by rw[q.1];exact q.2)).1;rw[gd.2.2,q.1]at this;exact this
   simp only;rw[if_pos q,←hp]
  ·simp only;rw[if_neg q,if_neg q]
 have hf:qn (qn f a b) ⟨b.dir,b.name,a.ino⟩ ⟨a.dir,a.name,0⟩ = { f with xs:=(qn (qn f a b) ⟨b.dir,b.name,a.ino⟩ ⟨a.dir,a.name,0⟩).xs }:=by
  have e1:∀ (g:FsV) (a b:zB),qn g a b = { g with xs:=(qn g a b).xs }:=fun g a b=>by
   unfold qn;simp only;split<;>rfl
  rw[e1 (qn f a b),e1 f a b]
 rw[hf,hx]
def J5 (w:qj) (n:Int) (s:zB):zn:={ zf (Xc n w.kept).ino w.pool with parent:=if (zf (Xc n w.kept).ino w.pool).kind=2 then s.dir else (zf (Xc n w.kept).ino w.pool).parent }
def zkC (w:qj) (n:Int) (s:zB):qj:=
 if zl (Xc n w.kept).ino w.fs.xs then ⟨Xb w.fs s (Xc n w.kept).ino,jh zL.slot n w.kept,w.pool⟩
 else ⟨Xb { w.fs with xs:=qd (J5 w n s) w.fs.xs } s (Xc n w.kept).ino,jh zL.slot n w.kept,zY (Xc n w.kept).ino w.pool⟩
theorem zlM (h:zl x.ino xs=false) (hR:zW xs):zY x.ino (qd x xs)=xs:=by
 have hne:∀ z∈xs,z.ino≠x.ino:=fun z hz e=>by
  have:=Ji hz;rw[e,h]at this;cases this
 refine zaK (fun a b q z=>?_) ((zO hR).filter _) hR fun z=>?_
 ·have q:a.ino<b.ino:=q;have z:b.ino<a.ino:=z;omega
 ·show z∈zY x.ino (qd x xs)↔_;rw[J3,qo];constructor
  ·rintro ⟨rfl | q,q2⟩
   ·exact absurd rfl q2
   ·exact q.1
  ·exact fun q=>⟨.inr ⟨q,hne z q⟩,hne z q⟩
structure zrW (v:qj) (n:Int) (s:zB) (x:zn) (w:qj):Prop where
 has:Vd n v.kept=true
 k:Xc n v.kept=⟨n,x.ino,false,[]⟩
 file:zl x.ino v.fs.xs=true->(zf x.ino v.fs.xs).kind≠2
 room:zl x.ino v.fs.xs=false->YN v.fs 1 (if (zf x.ino v.pool).kind=1 then ((zf x.ino v.pool).data.length:Int) else 0)=true
 back:zkC v n s=w
 pool:zl x.ino v.fs.xs=false->zl x.ino v.pool=true/\J5 v n s = { x with links:=0 }
theorem xQ (hf:FsI f) {s:zB} (hs:zm f s) (dne:s.dir≠s.ino) {E:List zn} {y:zn} (hR:zW E) (hh2:∀ m,zl m E=zl m f.xs)
  (hg2:∀ m,zf m E=if s.ino=m then y else if s.dir=m then qh (zf s.dir f.xs) (zg s.name (zf s.dir f.xs).es) else zf m f.xs) (ex:{ y with links:=y.links+1 }=zf s.ino f.xs) :
  qd { zf s.ino E with links:=(zf s.ino E).links+1 } (qe s.dir (zQ s.name s.ino) E)=f.xs:=by
 have hd:=zj hs.has;have hh:=zm.ino hf hs;have hn1:(zf s.ino f.xs).ino=s.ino:=(zj hh).2.2;have hds:zl s.dir E=true:=by rw[hh2];exact hs.has
 have hgd:zf s.dir E=qh (zf s.dir f.xs) (zg s.name (zf s.dir f.xs).es):=by rw[hg2,if_neg (fun z=>dne z.symm),if_pos rfl]
 rw[show zf s.ino E=y by rw[hg2,if_pos rfl],ex];refine zaL (zO (zO hR)) hf.rises (fun m=>?_) fun m hm=>?_
 ·rw[qy,zM hds,hh2,hn1];by_cases q:s.ino=m
  ·subst q;rw[hh];simp
  ·simp[q]
 ·rw[qq,hn1,jk hds,hgd,hg2];by_cases q:s.ino=m
  ·rw[if_pos q,q]
  rw[if_neg q];by_cases q2:s.dir=m
  ·rw[if_pos q2];show qh (zf s.dir f.xs) (zQ s.name s.ino (zg s.name (zf s.dir f.xs).es))=_;rw[xZ (hf.es _ hd.2.1) hs.there,q2]
  ·rw[if_neg q2,if_neg q,if_neg q2]
theorem zgE (hi:Zm w) (hr:yP w) {s:zB} (hs:zm w.fs s) (he:(zf s.ino w.fs.xs).es = []) {n:Int} (hn:Vd n w.kept=false) :
  zrW (qL w n s).1 n ⟨s.dir,s.name,0⟩ (zf s.ino w.fs.xs) w:=by
 have hf:=hi.fs;have hd:=zj hs.has;have hh:=zm.ino hf hs;have hx:=zj hh;have ek:(qL w n s).1=⟨zk w.fs s,qw ⟨n,s.ino,false,[]⟩ w.kept,if (zf s.ino w.fs.xs).links=1 then qd { zf s.ino w.fs.xs with links:=0,parent:=0 } w.pool else w.pool⟩:=by
  unfold qL;rw[hn];rfl
 have hnk:Js zL.slot (zL.slot ⟨n,s.ino,false,[]⟩) w.kept=false:=hn;have kf:qz zL.slot n (qw ⟨n,s.ino,false,[]⟩ w.kept)=some ⟨n,s.ino,false,[]⟩:=by
  unfold qw;rw[kF hnk,if_pos rfl]
 have kh:Vd n (qw ⟨n,s.ino,false,[]⟩ w.kept)=true:=by unfold Vd;rw[qg,kf];rfl
 have ks:Xc n (qw ⟨n,s.ino,false,[]⟩ w.kept)=⟨n,s.ino,false,[]⟩:=by unfold Xc;rw[kf];rfl
 have kl:jh zL.slot n (qw ⟨n,s.ino,false,[]⟩ w.kept)=w.kept:=zbi hnk;have dne:s.dir≠s.ino:=fun e=>by
  have:=(zK hs.there).2;rw[e,he]at this;cases this
 have hpar:(zf s.ino w.fs.xs).parent=if (zf s.ino w.fs.xs).kind=2 then s.dir else 0:=by
  by_cases q:(zf s.ino w.fs.xs).kind=2
  ·rw[if_pos q];obtain ⟨rk,hed⟩:=hr.fs.edge;have:=(hed _ hd.2.1 _ (zK hs.there).2 q).1;rw[hd.2.2]at this;exact this
  ·rw[if_neg q];exact (hr.fs.node _ hx.2.1).par q
 have dh:∀ m,zl m (qe s.dir (zg s.name) w.fs.xs)=zl m w.fs.xs:=fun m=>zM hs.has;have dg:∀ m,zf m (qe s.dir (zg s.name) w.fs.xs)=if s.dir=m then qh (zf s.dir w.fs.xs) (zg s.name (zf s.dir w.fs.xs).es) else zf m w.fs.xs:=fun m=>jk hs.has;have dR:zW (qe s.dir (zg s.name) w.fs.xs):=zO hf.rises;have hn1:(zf s.ino w.fs.xs).ino=s.ino:=hx.2.2;rw[ek];by_cases hl:(zf s.ino w.fs.xs).links=1
 ·have hu:zk w.fs s = { w.fs with xs:=zY s.ino (qe s.dir (zg s.name) w.fs.xs) }:=by unfold zk;rw[if_pos (by omega)]
  have hno:zl s.ino (zk w.fs s).xs=false:=by rw[hu];show zl _ (zY _ _)=false;rw[J2];simp
  rw[if_pos hl];have hp0:zl s.ino w.pool=false:=by
   cases hq:zl s.ino w.pool with
   | false=>rfl
   | true =>
    have g:=zj hq;have:=(hi.apart _ g.2.1).1;rw[g.2.2,hh]at this;cases this
  have pg:zf s.ino (qd { zf s.ino w.fs.xs with links:=0,parent:=0 } w.pool) = { zf s.ino w.fs.xs with links:=0,parent:=0 }:=by rw[qq,if_pos hn1]
  have hY:∀ (u:FsV),J5 ⟨u,qw ⟨n,s.ino,false,[]⟩ w.kept,qd { zf s.ino w.fs.xs with links:=0,parent:=0 } w.pool⟩ n ⟨s.dir,s.name,0⟩ = { zf s.ino w.fs.xs with links:=0 }:=fun u=>by
   unfold J5;simp only[ks];rw[pg];simp only;rw[←hpar]
  refine ⟨kh,by rw[hn1];exact ks,fun q=>?_,fun _=>?_,?_,fun _=>⟨?_,hY _⟩⟩
  ·have q:zl (zf s.ino w.fs.xs).ino (zk w.fs s).xs=true:=q;rw[hn1,hno]at q;cases q
  ·rw[hn1];show YN (zk w.fs s) 1 (if (zf s.ino (qd _ w.pool)).kind=1 then ((zf s.ino (qd _ w.pool)).data.length:Int) else 0)=true;rw[pg];have gD:zf s.ino (qe s.dir (zg s.name) w.fs.xs)=zf s.ino w.fs.xs:=by rw[dg,if_neg dne]
   have hD:zl s.ino (qe s.dir (zg s.name) w.fs.xs)=true:=(dh s.ino).trans hh;have s1:∀ l:List zn,GL (fun _=>1) l=l.length:=fun l=>by
    induction l with
    | nil=>rfl
    | cons x r ih=>show 1+GL (fun _=>1) r=r.length+1;rw[ih];omega
   have q1:(qe s.dir (zg s.name) w.fs.xs).length=(zY s.ino (qe s.dir (zg s.name) w.fs.xs)).length+1:=by
    have:=Xh (fun _=>1) (n:=s.ino) dR;rw[(zj hD).1,s1,s1]at this;exact this
   have q2:ql (qe s.dir (zg s.name) w.fs.xs)=ql (zY s.ino (qe s.dir (zg s.name) w.fs.xs))+bN (zf s.ino w.fs.xs):=by
    have:=Xh bN (n:=s.ino) dR;rw[(zj hD).1,gD,←Jx,←Jx]at this;exact this
   rw[YG hf.rises hs.has]at q2;rw[qV hf.rises hs.has]at q1;obtain ⟨f1,f2⟩:=hr.fs.fit;rw[hu];unfold YN;rw[Wp,WW,WW];unfold bN at q2;refine ⟨by show ((zY s.ino _).length:Int)+1<=w.fs.maxI;omega,?_⟩;show (ql (zY s.ino _):Int)+(if (zf s.ino w.fs.xs).kind=1 then ((zf s.ino w.fs.xs).data.length:Int) else 0)<=w.fs.maxB;split
   ·rename_i hk;rw[if_pos hk]at q2;omega
   ·rename_i hk;rw[if_neg hk]at q2;omega
  ·unfold zkC;simp only[ks,hno,kl];rw[if_neg (by decide),hY];have e2:zY s.ino (qd { zf s.ino w.fs.xs with links:=0,parent:=0 } w.pool)=w.pool:=by
    have:=zlM (x:={ zf s.ino w.fs.xs with links:=0,parent:=0 }) (xs:=w.pool) (by show zl (zf s.ino w.fs.xs).ino w.pool=false;rw[hn1];exact hp0) hi.pool;have this:zY (zf s.ino w.fs.xs).ino _=w.pool:=this;rw[hn1]at this;exact this
   rw[e2];have e3:Xb { zk w.fs s with xs:=qd { zf s.ino w.fs.xs with links:=0 } (zk w.fs s).xs } ⟨s.dir,s.name,0⟩ s.ino=w.fs:=by
    rw[hu];unfold Xb;simp only;have hR1:zW (zY s.ino (qe s.dir (zg s.name) w.fs.xs)):=dR.filter _;have hh1:∀ m,zl m (zY s.ino (qe s.dir (zg s.name) w.fs.xs))=(!decide (m=s.ino)&&zl m w.fs.xs):=fun m=>by rw[J2,dh]
    have hg1:∀ m,zf m (zY s.ino (qe s.dir (zg s.name) w.fs.xs))=if m=s.ino then vU else if s.dir=m then qh (zf s.dir w.fs.xs) (zg s.name (zf s.dir w.fs.xs).es) else zf m w.fs.xs:=fun m=>by rw[QJ,dg]
    generalize zY s.ino (qe s.dir (zg s.name) w.fs.xs)=D at *;have hR2:zW (qd { zf s.ino w.fs.xs with links:=0 } D):=zO hR1;have hh2:∀ m,zl m (qd { zf s.ino w.fs.xs with links:=0 } D)=zl m w.fs.xs:=fun m=>by
     rw[qy];show (decide ((zf s.ino w.fs.xs).ino=m)||zl m D)=_;rw[hn1,hh1];by_cases q:s.ino=m
     ·subst q;rw[hh];simp
     ·have q2:¬m=s.ino:=fun z=>q z.symm;simp[q,q2]
    have hg2:∀ m,zf m (qd { zf s.ino w.fs.xs with links:=0 } D)=if s.ino=m then { zf s.ino w.fs.xs with links:=0 } else if s.dir=m then qh (zf s.dir w.fs.xs) (zg s.name (zf s.dir w.fs.xs).es) else zf m w.fs.xs:=fun m=>by
     rw[qq];show (if (zf s.ino w.fs.xs).ino=m then _ else _)=_;rw[hn1,hg1];by_cases q:s.ino=m
     ·rw[if_pos q,if_pos q]
     ·rw[if_neg q,if_neg q,if_neg (fun z=>q z.symm)]
    generalize qd { zf s.ino w.fs.xs with links:=0 } D=E at *;rw[xQ hf hs dne hR2 hh2 hg2 (by
     simp only;rw[show (0:Int)+1=(zf s.ino w.fs.xs).links by rw[hl];rfl])]
   rw[e3]
  ·show zl (zf s.ino w.fs.xs).ino (qd _ _)=true;rw[qy];simp
 ·have hu:zk w.fs s = { w.fs with xs:=qd { zf s.ino w.fs.xs with links:=(zf s.ino w.fs.xs).links-1 } (qe s.dir (zg s.name) w.fs.xs) }:=by unfold zk;rw[if_neg (by omega)]
  have hR1:zW (zk w.fs s).xs:=by rw[hu];exact zO dR
  have hh1:∀ m,zl m (zk w.fs s).xs=zl m w.fs.xs:=fun m=>by
   rw[hu];show zl m (qd _ _)=_;rw[qy,dh];show (decide ((zf s.ino w.fs.xs).ino=m)||_)=_;rw[hn1];by_cases q:s.ino=m
   ·subst q;rw[hh];simp
   ·simp[q]
  have hg1:∀ m,zf m (zk w.fs s).xs=if s.ino=m then { zf s.ino w.fs.xs with links:=(zf s.ino w.fs.xs).links-1 } else if s.dir=m then qh (zf s.dir w.fs.xs) (zg s.name (zf s.dir w.fs.xs).es) else zf m w.fs.xs:=fun m=>by
   rw[hu];show zf m (qd _ _)=_;rw[qq,dg];show (if (zf s.ino w.fs.xs).ino=m then _ else _)=_;rw[hn1]
  have hyes:zl s.ino (zk w.fs s).xs=true:=by rw[hh1];exact hh
  rw[if_neg hl];refine ⟨kh,by rw[hn1];exact ks,fun _=>?_,fun q=>?_,?_,fun q=>?_⟩
  ·rw[hn1];show (zf s.ino (zk w.fs s).xs).kind≠2;rw[hg1,if_pos rfl];intro q;have q:(zf s.ino w.fs.xs).kind=2:=q;exact hl ((hr.fs.node _ hx.2.1).one q (by rw[hn1];exact Xl hf hs))
  ·have q:zl (zf s.ino w.fs.xs).ino (zk w.fs s).xs=false:=q;rw[hn1,hyes]at q;cases q
  ·unfold zkC;simp only[ks,hyes,kl,if_true];have e3:Xb (zk w.fs s) ⟨s.dir,s.name,0⟩ s.ino=w.fs:=by
    have hmx:zk w.fs s = { w.fs with xs:=(zk w.fs s).xs }:=by rw[hu]
    rw[hmx];unfold Xb;simp only;generalize (zk w.fs s).xs=E at *;rw[xQ hf hs dne hR1 hh1 hg1 (by
     simp only;rw[show (zf s.ino w.fs.xs).links-1+1=(zf s.ino w.fs.xs).links by omega])]
   rw[e3]
  ·have q:zl (zf s.ino w.fs.xs).ino (zk w.fs s).xs=false:=q;rw[hn1,hyes]at q;cases q
end
end Go.Proofs.YtnpdbhbmakdklaaGreatDoor.Vcg
