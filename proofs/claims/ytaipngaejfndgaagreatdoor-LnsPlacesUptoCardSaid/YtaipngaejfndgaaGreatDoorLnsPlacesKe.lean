/- What the proof of LnsPlaces leans on, part 5: Rf9 Rf10 Grw Con Kit KitBytes QuoteWalk1 Builder QuoteWalk2 Diag1 Spl Diag2 Diag3 Diag4 Dra3 Ref19b Ref19c Rf11 Ref8 Wlk1 Wlk2 Tree1 Mak0 Tree2 Tree3 Tree4 Tree5 Tree6 Tree7 Dra4 Mak1 Mak2 Mak3 OpenD Rgt0 Rgt1 Rgt2 Rgt3 Rgt4 Rgt5 Rgt6 PthL Rms0 Do7 Do4 Sk0 Slc2 Sk2 SekP SekL Dat Gro Pla Lnp Sek1 Sek2 Sek3. No condition beyond what each theorem states. -/
import Derived.Test.YtaipngaejfndgaaGreatDoorLnsPlacesKd
import Derived.WalkKit
import Derived.Lib.Hide
import Derived.Lib.Join
import Derived.Deep.Draws
import Derived.Lib.SlBytesRow
import Derived.StillTailTactics
import Derived.Test.YtaipngaejfndgaaGreatDoorProg
import Derived.WalkLawsBesides
import Derived.WalkSpells
import Derived.Shelf.Strings.Builder1
import Derived.Shelf.Strings.BuilderF
import Derived.Shelf.Strings.SlTrimAscii
import Derived.Sort.Walk0
set_option linter.unusedVariables false
set_option linter.unusedSimpArgs false
set_option linter.unusedSectionVars false
set_option maxRecDepth 100000
set_option maxHeartbeats 4000000
namespace Go.Proofs.YtaipngaejfndgaaGreatDoor.Vcg
variable {k N:Nat} {w:qR} {f:FsV} {args:List C} {n p:Int} {ns:List Lz} {l:List (Int×Int)} {xs:List zn} {d:qn} {b:Lz}
section
open CA CB
open Go.RowKit
def jP (x:zn) (k:zV):Bool:=decide (k.ino=x.ino)&&!k.content
def qF (w:qR) (x:zn):Prop:=zk x.ino w.fs.xs=false/\1<=x.ino/\x.ino<w.fs.next/\x.links=0/\x.parent=0/\x.es = []/\(x.kind=1∨x.kind=2∨x.kind=3)/\(x.kind=2->x.data = [])/\(x.kind=3->1<=x.data.length/\x.data.length<=4095/\∀ b∈x.data,b≠0)/\w.kept.any (jP x)=true
instance (w:qR) (x:zn):Decidable (qF w x):=by unfold qF;infer_instance
theorem zrE {α:Type} {P:α->Bool} {l:List α} (h:k<l.length):(l.take (k+1)).any P=((l.take k).any P||P l[k]):=by
 rw[W1,Wa h,BL];simp
theorem zbO (w:qR) (x:zn) (hl:w.fs.xs.length<=100000) (hk:w.kept.length<=100000) (he:x.es.length<=100000) (hd:x.data.length<=100000):Fun Tryz.prog G0 117 [XX w,.agg (YB x)] (qM (decide (qF w x))) 0:=by
 have hg:=j5 (G:=G0) w.fs x.ino hl;have hkl:(zL w.kept).length=w.kept.length:=We ..;have hle:(zQ x.es).length=x.es.length:=We ..;by_cases c1:zk x.ino w.fs.xs=true
 ·have hn:¬qF w x:=fun h=>by have:=h.1;rw[c1]at this;cases this
  rw[c1]at hg;refine fon Tryz.func117 ?_;dsimp only[Tryz.f117];push_cast;refine cl hg ?_;push_cast;exact dn (by push_cast [ze,zd,CLe,zf,hn])
 have c1:=Or.2 c1;rw[c1]at hg;by_cases c2:x.ino<1
 case pos =>
  have hn:¬qF w x:=fun h=>by have:=h.2.1;omega
  refine fon Tryz.func117 ?_;dsimp only[Tryz.f117];push_cast;refine cl hg ?_;push_cast [hle,c2];exact dn (by push_cast [ze,zd,CLe,zf,hn])
 by_cases c3:w.fs.next<=x.ino
 case pos =>
  have hn:¬qF w x:=fun h=>by have:=h.2.2.1;omega
  refine fon Tryz.func117 ?_;dsimp only[Tryz.f117];push_cast;refine cl hg ?_;push_cast [hle,c2,c3];exact dn (by push_cast [ze,zd,CLe,zf,hn])
 by_cases c4:x.links=0
 case neg =>
  have hn:¬qF w x:=fun h=>c4 h.2.2.2.1;refine fon Tryz.func117 ?_;dsimp only[Tryz.f117];push_cast;refine cl hg ?_;push_cast [hle,c2,c3,c4];exact dn (by push_cast [ze,zd,CLe,zf,hn])
 by_cases c5:x.parent=0
 case neg =>
  have hn:¬qF w x:=fun h=>c5 h.2.2.2.2.1;refine fon Tryz.func117 ?_;dsimp only[Tryz.f117];push_cast;refine cl hg ?_;push_cast [hle,c2,c3,c4,c5];exact dn (by push_cast [ze,zd,CLe,zf,hn])
 by_cases c6:(x.es.length:Int)=0
 case neg =>
  have hn:¬qF w x:=fun h=>c6 (by rw[h.2.2.2.2.2.1];rfl);refine fon Tryz.func117 ?_;dsimp only[Tryz.f117];push_cast;refine cl hg ?_;push_cast [hle,c2,c3,c4,c5,c6];exact dn (by push_cast [ze,zd,CLe,zf,hn])
 by_cases c7:x.kind<1
 case pos =>
  have hn:¬qF w x:=fun h=>by have:=h.2.2.2.2.2.2.1;omega
  refine fon Tryz.func117 ?_;dsimp only[Tryz.f117];push_cast;refine cl hg ?_;push_cast [hle,c2,c3,c4,c5,c6,c7];exact dn (by push_cast [ze,zd,CLe,zf,hn])
 by_cases c8:3<x.kind
 case pos =>
  have hn:¬qF w x:=fun h=>by have:=h.2.2.2.2.2.2.1;omega
  refine fon Tryz.func117 ?_;dsimp only[Tryz.f117];push_cast;refine cl hg ?_;push_cast [hle,c2,c3,c4,c5,c6,c7,c8];exact dn (by push_cast [ze,zd,CLe,zf,hn])
 have hes:x.es = []:=WO (by omega);have hkd:x.kind=1∨x.kind=2∨x.kind=3:=by omega
 have key:(x.kind=2->x.data = [])->(x.kind=3->1<=x.data.length/\x.data.length<=4095/\∀ b∈x.data,b≠0)->decide (qF w x)=w.kept.any (jP x):=fun q1 q2=>by
  cases hn:w.kept.any (jP x) with
  | true=>exact Wo ⟨c1,by omega,by omega,c4,c5,hes,hkd,q1,q2,hn⟩
  | false=>exact Wp fun h=>by have:=h.2.2.2.2.2.2.2.2.2;rw[hn]at this;cases this
 by_cases k2:x.kind=2
 ·by_cases d0:x.data = []
  ·have hdl:((0:Int)<x.data.length)=False:=WH (by rw[d0];simp);refine fon Tryz.func117 ?_;dsimp only[Tryz.f117];push_cast;refine cl hg ?_;push_cast [hle,c2,c3,c4,c5,c6,c7,c8,k2,d0,hdl];refine loop (fun j:Nat=>⟨[(2,.ptr 0 0),(3,.ptr 1 0),(7,.sc (.int .i64 j))],[Mi w,YB x],0,0⟩) (fun j=>j=0) (fun j=>0) 0 rfl ?_ ?_
   ·exact wk (h5:=by push_cast [ze,zd,CLe,zf,k2,d0,c4,c5])
   ·rintro j rfl;push_cast [hdl,d0];refine loop (fun i:Nat=>⟨[(2,.ptr 0 0),(3,.ptr 1 0),(8,.sc (.bool ((w.kept.take i).any (jP x)))),(9,.sc (.int .i64 i))],[Mi w,YB x],0,0⟩) (fun i=>i<=w.kept.length) (fun i=>w.kept.length-i) 0 (Wc _) ?_ ?_
    ·exact wk (by push_cast [ze,zd,CLe,zf,Oy,BR])
    ·intro i hi;by_cases h:i<w.kept.length
     ·have g:=JJ w.kept i h;have ha:=zrE (P:=jP x) h;have hp:jP x w.kept[i]=(decide (w.kept[i].ino=x.ino)&&!w.kept[i].content):=rfl;by_cases hn:((w.kept.take i).any (jP x))=true
      ·rw[hn,BS]at ha;push_cast [hkl,h,hn]
       repeat refine an ?_
       exact ⟨i+1,h,by omega,wk (by push_cast [ze,zd,CLe,zf,ha])⟩
      ·have hn:=Or.2 hn;rw[hn,O4,hp]at ha;by_cases he:w.kept[i].ino=x.ino
       ·rw[Wo he,Ol]at ha;push_cast [hkl,h,hn,g,he]
        repeat refine an ?_
        exact ⟨i+1,h,by omega,wk (by push_cast [ze,zd,CLe,zf,ha])⟩
       ·rw[Wp he,Oa]at ha;push_cast [hkl,h,hn,g,he]
        repeat refine an ?_
        exact ⟨i+1,h,by omega,wk (by push_cast [ze,zd,CLe,zf,ha])⟩
     ·rw[Wh (by omega)];have hd:decide (qF w x)=w.kept.any (jP x):=key (fun _=>d0) (fun h=>by omega);push_cast [hkl,h];exact dn (by push_cast [ze,zd,CLe,zf,hd])
  ·have hn:¬qF w x:=fun h=>d0 (h.2.2.2.2.2.2.2.1 k2);refine fon Tryz.func117 ?_;dsimp only[Tryz.f117];push_cast;refine cl hg ?_;push_cast [hle,c2,c3,c4,c5,c6,c7,c8,k2,d0];exact dn (by push_cast [ze,zd,CLe,zf,hn])
 by_cases k3:x.kind=3
 ·by_cases l1:(x.data.length:Int)<1
  ·have hn:¬qF w x:=fun h=>by have:=(h.2.2.2.2.2.2.2.2.1 k3).1;omega
   refine fon Tryz.func117 ?_;dsimp only[Tryz.f117];push_cast;refine cl hg ?_;push_cast [hle,c2,c3,c4,c5,c6,c7,c8,k2,k3,l1];exact dn (by push_cast [ze,zd,CLe,zf,hn])
  by_cases l2:4095<(x.data.length:Int)
  ·have hn:¬qF w x:=fun h=>by have:=(h.2.2.2.2.2.2.2.2.1 k3).2.1;omega
   refine fon Tryz.func117 ?_;dsimp only[Tryz.f117];push_cast;refine cl hg ?_;push_cast [hle,c2,c3,c4,c5,c6,c7,c8,k2,k3,l1,l2];exact dn (by push_cast [ze,zd,CLe,zf,hn])
  refine fon Tryz.func117 ?_;dsimp only[Tryz.f117];push_cast;refine cl hg ?_;push_cast [hle,c2,c3,c4,c5,c6,c7,c8,k2,k3,l1,l2];refine loop (fun j:Nat=>⟨[(2,.ptr 0 0),(3,.ptr 1 0),(7,.sc (.int .i64 j))],[Mi w,YB x],0,0⟩) (fun j=>j<=x.data.length/\∀ b∈x.data.take j,b≠0) (fun j=>x.data.length-j) 0 ⟨Wc _,fun b hb=>by simp at hb⟩ ?_ ?_
  ·exact wk (h5:=by push_cast [ze,zd,CLe,zf,k3,c4,c5])
  ·rintro j ⟨j1,j2⟩;by_cases hj:j<x.data.length
   ·have hb:x.data[j]?=some x.data[j]:=Wa hj;by_cases z:(x.data[j].toNat:Int)=0
    ·have hn:¬qF w x:=fun h=>(h.2.2.2.2.2.2.2.2.1 k3).2.2 _ (Wx hj) (Ap.1 (by simpa using z));push_cast [hj,k3,hb,z]
     repeat refine an ?_
     exact dn (by push_cast [ze,zd,CLe,zf,hn])
    ·push_cast [hj,k3,hb,z]
     repeat refine an ?_
     exact ⟨j+1,⟨hj,qq hj j2 fun hz=>z (by rw[hz];rfl)⟩,by omega,wk⟩
   ·rw[Wh (by omega)]at j2;push_cast [hj,k3];refine loop (fun i:Nat=>⟨[(2,.ptr 0 0),(3,.ptr 1 0),(8,.sc (.bool ((w.kept.take i).any (jP x)))),(9,.sc (.int .i64 i))],[Mi w,YB x],0,0⟩) (fun i=>i<=w.kept.length) (fun i=>w.kept.length-i) 0 (Wc _) ?_ ?_
    ·exact wk (by push_cast [ze,zd,CLe,zf,Oy,BR])
    ·intro i hi;by_cases h:i<w.kept.length
     ·have g:=JJ w.kept i h;have ha:=zrE (P:=jP x) h;have hp:jP x w.kept[i]=(decide (w.kept[i].ino=x.ino)&&!w.kept[i].content):=rfl;by_cases hn:((w.kept.take i).any (jP x))=true
      ·rw[hn,BS]at ha;push_cast [hkl,h,hn]
       repeat refine an ?_
       exact ⟨i+1,h,by omega,wk (by push_cast [ze,zd,CLe,zf,ha])⟩
      ·have hn:=Or.2 hn;rw[hn,O4,hp]at ha;by_cases he:w.kept[i].ino=x.ino
       ·rw[Wo he,Ol]at ha;push_cast [hkl,h,hn,g,he]
        repeat refine an ?_
        exact ⟨i+1,h,by omega,wk (by push_cast [ze,zd,CLe,zf,ha])⟩
       ·rw[Wp he,Oa]at ha;push_cast [hkl,h,hn,g,he]
        repeat refine an ?_
        exact ⟨i+1,h,by omega,wk (by push_cast [ze,zd,CLe,zf,ha])⟩
     ·rw[Wh (by omega)];have hd:decide (qF w x)=w.kept.any (jP x):=key (fun h=>absurd h k2) (fun _=>⟨by omega,by omega,j2⟩);push_cast [hkl,h];exact dn (by push_cast [ze,zd,CLe,zf,hd])
 ·have k1:x.kind=1:=by omega
  refine fon Tryz.func117 ?_;dsimp only[Tryz.f117];push_cast;refine cl hg ?_;push_cast [hle,c2,c3,c4,c5,c6,c7,c8,k2,k3];refine loop (fun j:Nat=>⟨[(2,.ptr 0 0),(3,.ptr 1 0),(7,.sc (.int .i64 j))],[Mi w,YB x],0,0⟩) (fun j=>j=0) (fun j=>0) 0 rfl ?_ ?_
  ·exact wk (h5:=by push_cast [ze,zd,CLe,zf,c4,c5])
  ·rintro j rfl;by_cases hd0:(0:Int)<x.data.length
   ·push_cast [hd0,k3];refine loop (fun i:Nat=>⟨[(2,.ptr 0 0),(3,.ptr 1 0),(8,.sc (.bool ((w.kept.take i).any (jP x)))),(9,.sc (.int .i64 i))],[Mi w,YB x],0,0⟩) (fun i=>i<=w.kept.length) (fun i=>w.kept.length-i) 0 (Wc _) ?_ ?_
    ·exact wk (by push_cast [ze,zd,CLe,zf,Oy,BR])
    ·intro i hi;by_cases h:i<w.kept.length
     ·have g:=JJ w.kept i h;have ha:=zrE (P:=jP x) h;have hp:jP x w.kept[i]=(decide (w.kept[i].ino=x.ino)&&!w.kept[i].content):=rfl;by_cases hn:((w.kept.take i).any (jP x))=true
      ·rw[hn,BS]at ha;push_cast [hkl,h,hn]
       repeat refine an ?_
       exact ⟨i+1,h,by omega,wk (by push_cast [ze,zd,CLe,zf,ha])⟩
      ·have hn:=Or.2 hn;rw[hn,O4,hp]at ha;by_cases he:w.kept[i].ino=x.ino
       ·rw[Wo he,Ol]at ha;push_cast [hkl,h,hn,g,he]
        repeat refine an ?_
        exact ⟨i+1,h,by omega,wk (by push_cast [ze,zd,CLe,zf,ha])⟩
       ·rw[Wp he,Oa]at ha;push_cast [hkl,h,hn,g,he]
        repeat refine an ?_
        exact ⟨i+1,h,by omega,wk (by push_cast [ze,zd,CLe,zf,ha])⟩
     ·rw[Wh (by omega)];have hd:decide (qF w x)=w.kept.any (jP x):=key (fun h=>absurd h k2) (fun h=>absurd h k3);push_cast [hkl,h];exact dn (by push_cast [ze,zd,CLe,zf,hd])
   ·push_cast [hd0,k3];refine loop (fun i:Nat=>⟨[(2,.ptr 0 0),(3,.ptr 1 0),(8,.sc (.bool ((w.kept.take i).any (jP x)))),(9,.sc (.int .i64 i))],[Mi w,YB x],0,0⟩) (fun i=>i<=w.kept.length) (fun i=>w.kept.length-i) 0 (Wc _) ?_ ?_
    ·exact wk (by push_cast [ze,zd,CLe,zf,Oy,BR])
    ·intro i hi;by_cases h:i<w.kept.length
     ·have g:=JJ w.kept i h;have ha:=zrE (P:=jP x) h;have hp:jP x w.kept[i]=(decide (w.kept[i].ino=x.ino)&&!w.kept[i].content):=rfl;by_cases hn:((w.kept.take i).any (jP x))=true
      ·rw[hn,BS]at ha;push_cast [hkl,h,hn]
       repeat refine an ?_
       exact ⟨i+1,h,by omega,wk (by push_cast [ze,zd,CLe,zf,ha])⟩
      ·have hn:=Or.2 hn;rw[hn,O4,hp]at ha;by_cases he:w.kept[i].ino=x.ino
       ·rw[Wo he,Ol]at ha;push_cast [hkl,h,hn,g,he]
        repeat refine an ?_
        exact ⟨i+1,h,by omega,wk (by push_cast [ze,zd,CLe,zf,ha])⟩
       ·rw[Wp he,Oa]at ha;push_cast [hkl,h,hn,g,he]
        repeat refine an ?_
        exact ⟨i+1,h,by omega,wk (by push_cast [ze,zd,CLe,zf,ha])⟩
     ·rw[Wh (by omega)];have hd:decide (qF w x)=w.kept.any (jP x):=key (fun h=>absurd h k2) (fun h=>absurd h k3);push_cast [hkl,h];exact dn (by push_cast [ze,zd,CLe,zf,hd])
end
section
open CA CB
open Go.RowKit
def zhR (w:qR):Prop:=(∀ k∈w.kept,k.data.length<=5000)/\HE w.fs.xs/\HE w.pool/\w.kept.length<=40
instance (w:qR):Decidable (zhR w):=by unfold zhR;infer_instance
def XS (w:qR) (k:zV):Prop:=k.slot<=1073741824/\(zk k.ino w.fs.xs=true∨zk k.ino w.pool=true)/\(k.content=true->(if zk k.ino w.pool=true then zg k.ino w.pool else zg k.ino w.fs.xs).kind=1)/\(k.content=false->k.data = [])
instance (w:qR) (k:zV):Decidable (XS w k):=by unfold XS;infer_instance
def Qe (ks:List zV):Prop:=qT Jn zV.slot ks/\∀ k∈ks,1<=k.slot
instance (ks:List zV):Decidable (Qe ks):=by unfold Qe qT;infer_instance
def XY (w:qR):Prop:=Jx w.fs=0/\z8 w.pool/\(∀ x∈w.pool,qF w x)/\Qe w.kept/\∀ k∈w.kept,XS w k
instance (w:qR):Decidable (XY w):=by unfold XY;infer_instance
def okW (w:qR):Prop:=zhR w/\XY w
instance (w:qR):Decidable (okW w):=by unfold okW;infer_instance
theorem kJ {ks:List zV} (h:Qe ks):0<=Jm ks/\∀ k∈ks,k.slot<=Jm ks:=by
 rcases AM ks with rfl | ⟨l,b,rfl⟩
 ·exact ⟨Ao 0,fun k hk=>by cases hk⟩
 ·rw[Au]at h ⊢;have hl:Jm (l++[b])=b.slot:=by unfold Jm;rw[BJ];rfl
  rw[hl];have hb:=h.2 b (by simp);refine ⟨by omega,fun k hk=>?_⟩;rcases WG.1 hk with hk | hk
  ·have:=(A5.1 h.1).2.2 k hk b (by simp);have:k.slot<b.slot:=WQ this;omega
  ·rw[Ob.1 hk];exact Ao _
theorem U6 {ks:List zV} {k:zV}:Qe (ks++[k])↔Qe ks/\Jm ks<k.slot:=by
 constructor
 ·rintro ⟨h1,h2⟩;have h0:Qe ks:=⟨(A5.1 h1).1,fun x hx=>h2 x (Ov _ hx)⟩;refine ⟨h0,?_⟩;rcases AM ks with rfl | ⟨l,b,rfl⟩
  ·have:=h2 k (by simp);show (0:Int)<k.slot;omega
  ·rw[Au]at h1 ⊢;have hl:Jm (l++[b])=b.slot:=by unfold Jm;rw[BJ];rfl
   rw[hl];exact WQ ((A5.1 h1).2.2 b (by simp) k (by simp))
 ·rintro ⟨h,hk⟩;obtain ⟨q1,q2⟩:=kJ h;refine ⟨A5.2 ⟨h.1,Bv _ _,fun a ha b hb=>?_⟩,fun x hx=>?_⟩
  ·rw[Ob.1 hb];have:=q2 a ha;exact Wo (show a.slot<k.slot by omega)
  ·rcases WG.1 hx with hx | hx
   ·exact h.2 x hx
   ·rw[Ob.1 hx];omega
theorem Gz (w:qR):Fun Tryz.prog G0 65 [XX w] (qM (decide (zhR w))) 0:=by
 have hkl:(zL w.kept).length=w.kept.length:=We ..;have hf:=zaY (G:=G0) w.fs;have hq:=Hn (G:=G0) w;have hp:=zaY (G:=G0) ⟨0,0,0,w.pool⟩;simp only at hp;have fin:(∀ k∈w.kept.take 100,k.data.length<=5000)->(zhR w↔HE w.fs.xs/\HE w.pool/\w.kept.length<=40):=fun h=>by
  refine ⟨fun q=>q.2,fun q=>⟨?_,q⟩⟩;rw[Wh (by have:=q.2.2;omega)]at h;exact h
 refine fon Tryz.func65 ?_;dsimp only[Tryz.f65];push_cast;refine loop (fun i:Nat=>⟨[(1,.ptr 0 0),(3,.sc (.int .i64 i))],[Mi w],0,0⟩) (fun i=>i<=w.kept.length/\i<=100/\∀ k∈w.kept.take i,k.data.length<=5000) (fun i=>w.kept.length-i) 0 ⟨Wc _,Wc _,fun x hx=>by simp at hx⟩ ?_ ?_
 ·exact wk
 ·rintro i ⟨h1,h2,h3⟩;have last:(∀ k∈w.kept.take 100,k.data.length<=5000)->decide (zhR w)=(decide (HE w.fs.xs)&&(decide (HE w.pool)&&decide (w.kept.length<=40))):=fun h=>by
   have:=fin h;by_cases a:HE w.fs.xs<;>by_cases b:HE w.pool<;>by_cases c:w.kept.length<=40<;>simp[this,a,b,c]
  by_cases h:i<w.kept.length
  ·by_cases h100:i<100
   ·have g:=JJ w.kept i h;have h100':((i:Int)<100)=True:=eq_true (by omega);by_cases hd:5000<(w.kept[i].data.length:Int)
    ·have hn:¬zhR w:=fun q=>by have:=q.1 _ (Wx h);omega
     push_cast [hkl,h,h100',g,hd]
     repeat refine an ?_
     exact dn (by push_cast [ze,zd,CLe,zf,hn])
    ·push_cast [hkl,h,h100',g,hd]
     repeat refine an ?_
     exact ⟨i+1,⟨h,h100,qq h h3 (by omega)⟩,by omega,wk⟩
   ·have h100':((i:Int)<100)=False:=WH (by omega);have e:i=100:=by omega
    have hl:=last (by rw[←e];exact h3);have h40:((w.kept.length:Int)<=40)=False:=WH (by omega);rw[Wp (show ¬w.kept.length<=40 by omega)]at hl;rw[hl];by_cases a:HE w.fs.xs
    ·by_cases b:HE w.pool
     ·push_cast [hkl,h,h100'];refine cl hf ?_;push_cast [Wo a];refine cl hq ?_;push_cast;refine cl hp ?_;push_cast [Wo b,hkl,h40];exact dn (by push_cast [ze,zd,CLe,zf,a,b,Oa])
     ·push_cast [hkl,h,h100'];refine cl hf ?_;push_cast [Wo a];refine cl hq ?_;push_cast;refine cl hp ?_;push_cast [Wp b];exact dn (by push_cast [ze,zd,CLe,zf,a,b,Oa])
    ·push_cast [hkl,h,h100'];refine cl hf ?_;push_cast [Wp a];exact dn (by push_cast [ze,zd,CLe,zf,a,Oa])
  ·rw[Wh (by omega)]at h3;have hl:=last fun k hk=>h3 k (Ww hk);rw[hl];by_cases a:HE w.fs.xs
   ·by_cases b:HE w.pool
    ·by_cases c:w.kept.length<=40
     ·have h40:((w.kept.length:Int)<=40)=True:=eq_true (by omega);push_cast [hkl,h];refine cl hf ?_;push_cast [Wo a];refine cl hq ?_;push_cast;refine cl hp ?_;push_cast [Wo b,hkl,h40];exact dn (by push_cast [ze,zd,CLe,zf,a,b,c,Oa])
     ·have h40:((w.kept.length:Int)<=40)=False:=WH (by omega);push_cast [hkl,h];refine cl hf ?_;push_cast [Wo a];refine cl hq ?_;push_cast;refine cl hp ?_;push_cast [Wo b,hkl,h40];exact dn (by push_cast [ze,zd,CLe,zf,a,b,c,Oa])
    ·push_cast [hkl,h];refine cl hf ?_;push_cast [Wo a];refine cl hq ?_;push_cast;refine cl hp ?_;push_cast [Wp b];exact dn (by push_cast [ze,zd,CLe,zf,a,b,Oa])
   ·push_cast [hkl,h];refine cl hf ?_;push_cast [Wp a];exact dn (by push_cast [ze,zd,CLe,zf,a,Oa])
structure zs6 (w:qR):Prop where
 fs:FsS w.fs
 kept:w.kept.length<=10000
 pool:FsS ⟨0,0,0,w.pool⟩
theorem ur (w:qR) (hw:zs6 w):Fun Tryz.prog G0 66 [XX w] (qM (decide (XY w))) 0:=by
 have hfl:=hw.fs.len;have hkk:=hw.kept;have hpp:w.pool.length<=10000:=hw.pool.len;have hkl:(zL w.kept).length=w.kept.length:=We ..;have hpl:(zu w.pool).length=w.pool.length:=We ..;have hch:=zeE w.fs hw.fs;have hq:=Hn (G:=G0) w;have hri:=UE (G:=G0) ⟨0,0,0,w.pool⟩ (by simp only;omega);by_cases c1:Jx w.fs=0
 case neg =>
  have hn:¬XY w:=fun h=>c1 h.1;refine fof (fun i=>if i=14 then J4 8 9 else []) Tryz.func66 ?_;dsimp only[Tryz.f66];push_cast;refine cl hch ?_;push_cast [c1];exact dn (by push_cast [ze,zd,CLe,zf,hn])
 by_cases c2:z8 w.pool
 case neg =>
  have hn:¬XY w:=fun h=>c2 h.2.1;rw[Wp c2]at hri;refine fof (fun i=>if i=14 then J4 8 9 else []) Tryz.func66 ?_;dsimp only[Tryz.f66];push_cast;refine cl hch ?_;push_cast [c1];refine cl hq ?_;push_cast;refine cl hri ?_;push_cast;exact dn (by push_cast [ze,zd,CLe,zf,hn])
 rw[Wo c2]at hri;refine fof (fun i=>if i=14 then J4 8 9 else []) Tryz.func66 ?_;dsimp only[Tryz.f66];push_cast;refine cl hch ?_;push_cast [c1];refine cl hq ?_;push_cast;refine cl hri ?_;push_cast;refine loop (fun i:Nat=>⟨[(1,.ptr 0 0),(3,.sc (.int .i64 i))],[Mi w],0,0⟩) (fun i=>i<=w.pool.length/\∀ x∈w.pool.take i,qF w x) (fun i=>w.pool.length-i) 0 ⟨Wc _,fun x hx=>by simp at hx⟩ ?_ ?_
 ·exact wk
 rintro i ⟨h1,h2⟩;by_cases h:i<w.pool.length
 ·have g:=js w.pool i h;have hn:=hw.pool.node _ (Wx h);have hpo:=zbO w w.pool[i] (by omega) (by omega) (by omega) (by omega);by_cases c3:qF w w.pool[i]
  ·rw[Wo c3]at hpo;push_cast [hpl,h,g]
   repeat refine an ?_
   refine cl hpo ?_;push_cast
   repeat refine an ?_
   exact ⟨i+1,⟨h,qq h h2 c3⟩,by omega,wk⟩
  ·rw[Wp c3]at hpo;have hn:¬XY w:=fun q=>c3 (q.2.2.1 _ (Wx h));push_cast [hpl,h,g]
   repeat refine an ?_
   refine cl hpo ?_;push_cast;exact dn (by push_cast [ze,zd,CLe,zf,hn])
 rw[Wh (by omega)]at h2;have hs0:Qe []:=⟨List.Pairwise.nil,fun k hk=>by cases hk⟩;have hl0:Jm []=0:=rfl;push_cast [hpl,h];clear hri hq hch;refine loop (fun i:Nat=>⟨[(1,.ptr 0 0),(4,.sc (.int .i64 (Jm (w.kept.take i)))),(5,.sc (.int .i64 i))],[Mi w],0,0⟩) (fun i=>i<=w.kept.length/\Qe (w.kept.take i)/\∀ k∈w.kept.take i,XS w k) (fun i=>w.kept.length-i) 0 ⟨Wc _,by rw[Oy];exact hs0,fun x hx=>by simp at hx⟩ ?_ ?_
 ·exact wk (by push_cast [ze,zd,CLe,zf,Oy,hl0])
 rintro i ⟨i1,i2,i3⟩;by_cases hi:i<w.kept.length
 case neg =>
  rw[Wh (by omega)]at i2 i3;have hn:XY w:=⟨c1,c2,h2,i2,i3⟩;push_cast [hkl,hi];exact dn (by push_cast [ze,zd,CLe,zf,hn])
 have g:=JJ w.kept i hi;have hlt:=kU hi;have hst:w.kept.take (i+1)=w.kept.take i++[w.kept[i]]:=by rw[W1,Wa hi];rfl
 have hbad1:¬Jm (w.kept.take i)<w.kept[i].slot->¬XY w:=fun hn q=>hn (U6.1 (by
  rw[←hst];exact ⟨q.2.2.2.1.1.sublist (List.take_sublist _ _),fun k hk=>q.2.2.2.1.2 k (Ww hk)⟩)).2
 have hbad2:¬XS w w.kept[i]->¬XY w:=fun hn q=>hn (q.2.2.2.2 _ (Wx hi));have hgood:Jm (w.kept.take i)<w.kept[i].slot->Qe (w.kept.take (i+1)):=fun q=>by rw[hst];exact U6.2 ⟨i2,q⟩
 have hgood2:XS w w.kept[i]->∀ k∈w.kept.take (i+1),XS w k:=fun q=>qq hi i3 q;have hg1:=j5 (G:=G0) w.fs w.kept[i].ino (by omega);have hq:=Hn (G:=G0) w;have hg2:=j5 (G:=G0) ⟨0,0,0,w.pool⟩ w.kept[i].ino (by simp only;omega);simp only at hg2;generalize w.kept[i]=k at g hlt hbad1 hbad2 hgood hgood2 hg1 hg2;generalize Jm (w.kept.take i)=la at hbad1 hgood;clear hst i2 i3;by_cases d1:k.slot<=la
 ·have hn:=hbad1 (by omega);push_cast [hkl,hi,g]
  repeat refine an ?_
  refine cl hg1 ?_;push_cast;refine cl hq ?_;push_cast;refine cl hg2 ?_;push_cast [d1];exact dn (by push_cast [ze,zd,CLe,zf,hn])
 have hgd:=hgood (by omega);by_cases d2:1073741824<k.slot
 ·have hn:=hbad2 fun q=>by have:=q.1;omega
  push_cast [hkl,hi,g]
  repeat refine an ?_
  refine cl hg1 ?_;push_cast;refine cl hq ?_;push_cast;refine cl hg2 ?_;push_cast [d1,d2];exact dn (by push_cast [ze,zd,CLe,zf,hn])
 cases e2:zk k.ino w.pool with
 | true =>
  rw[e2]at hg2;by_cases d4:k.content=true
  ·by_cases d5:(zg k.ino w.pool).kind=1
   ·have hok:XS w k:=⟨by omega,.inr e2,fun _=>by rw[if_pos e2];exact d5,fun q=>by rw[d4]at q;cases q⟩;cases e1:zk k.ino w.fs.xs <;>
    ·rw[e1]at hg1;push_cast [hkl,hi,g]
     repeat refine an ?_
     refine cl hg1 ?_;push_cast;refine cl hq ?_;push_cast;refine cl hg2 ?_;push_cast [d1,d2,d4,d5]
     repeat refine an ?_
     exact ⟨i+1,⟨hi,hgd,hgood2 hok⟩,by omega,wk (by push_cast [ze,zd,CLe,zf,hlt])⟩
   ·have hn:=hbad2 fun q=>d5 (by have:=q.2.2.1 d4;rwa [if_pos e2]at this);cases e1:zk k.ino w.fs.xs <;>
    ·rw[e1]at hg1;push_cast [hkl,hi,g]
     repeat refine an ?_
     refine cl hg1 ?_;push_cast;refine cl hq ?_;push_cast;refine cl hg2 ?_;push_cast [d1,d2,d4,d5];exact dn (by push_cast [ze,zd,CLe,zf,hn])
  ·have d4:=Or.2 d4;by_cases d6:k.data = []
   ·have hok:XS w k:=⟨by omega,.inr e2,fun q=>(by rw[d4]at q;cases q),fun _=>d6⟩;cases e1:zk k.ino w.fs.xs <;>
    ·rw[e1]at hg1;push_cast [hkl,hi,g]
     repeat refine an ?_
     refine cl hg1 ?_;push_cast;refine cl hq ?_;push_cast;refine cl hg2 ?_;push_cast [d1,d2,d4,d6]
     repeat refine an ?_
     exact ⟨i+1,⟨hi,hgd,hgood2 hok⟩,by omega,wk (by push_cast [ze,zd,CLe,zf,hlt])⟩
   ·have hn:=hbad2 fun q=>d6 (q.2.2.2 d4);cases e1:zk k.ino w.fs.xs <;>
    ·rw[e1]at hg1;push_cast [hkl,hi,g]
     repeat refine an ?_
     refine cl hg1 ?_;push_cast;refine cl hq ?_;push_cast;refine cl hg2 ?_;push_cast [d1,d2,d4,d6];exact dn (by push_cast [ze,zd,CLe,zf,hn])
 | false =>
  rw[e2]at hg2;cases e1:zk k.ino w.fs.xs with
  | false =>
   rw[e1]at hg1;have hn:=hbad2 fun q=>by
    rcases q.2.1 with q | q
    ·rw[e1]at q;cases q
    ·rw[e2]at q;cases q
   push_cast [hkl,hi,g]
   repeat refine an ?_
   refine cl hg1 ?_;push_cast;refine cl hq ?_;push_cast;refine cl hg2 ?_;push_cast [d1,d2];exact dn (by push_cast [ze,zd,CLe,zf,hn])
  | true =>
   rw[e1]at hg1;have e2':¬zk k.ino w.pool=true:=by rw[e2];decide
   by_cases d4:k.content=true
   ·by_cases d5:(zg k.ino w.fs.xs).kind=1
    ·have hok:XS w k:=⟨by omega,.inl e1,fun _=>by rw[if_neg e2'];exact d5,fun q=>by rw[d4]at q;cases q⟩;push_cast [hkl,hi,g]
     repeat refine an ?_
     refine cl hg1 ?_;push_cast;refine cl hq ?_;push_cast;refine cl hg2 ?_;push_cast [d1,d2,d4,d5]
     repeat refine an ?_
     exact ⟨i+1,⟨hi,hgd,hgood2 hok⟩,by omega,wk (by push_cast [ze,zd,CLe,zf,hlt])⟩
    ·have hn:=hbad2 fun q=>d5 (by have:=q.2.2.1 d4;rwa [if_neg e2']at this);push_cast [hkl,hi,g]
     repeat refine an ?_
     refine cl hg1 ?_;push_cast;refine cl hq ?_;push_cast;refine cl hg2 ?_;push_cast [d1,d2,d4,d5];exact dn (by push_cast [ze,zd,CLe,zf,hn])
   ·have d4:=Or.2 d4;by_cases d6:k.data = []
    ·have hok:XS w k:=⟨by omega,.inl e1,fun q=>(by rw[d4]at q;cases q),fun _=>d6⟩;push_cast [hkl,hi,g]
     repeat refine an ?_
     refine cl hg1 ?_;push_cast;refine cl hq ?_;push_cast;refine cl hg2 ?_;push_cast [d1,d2,d4,d6]
     repeat refine an ?_
     exact ⟨i+1,⟨hi,hgd,hgood2 hok⟩,by omega,wk (by push_cast [ze,zd,CLe,zf,hlt])⟩
    ·have hn:=hbad2 fun q=>d6 (q.2.2.2 d4);push_cast [hkl,hi,g]
     repeat refine an ?_
     refine cl hg1 ?_;push_cast;refine cl hq ?_;push_cast;refine cl hg2 ?_;push_cast [d1,d2,d4,d6];exact dn (by push_cast [ze,zd,CLe,zf,hn])
theorem zhR.m (h:zhR w):zs6 w:=⟨h.2.1.fs,by have:=h.2.2.2;omega,HE.fs (f:=⟨0,0,0,w.pool⟩) h.2.2.1⟩
theorem zeF (w:qR):Fun Tryz.prog G0 28 [XX w] (qM (decide (okW w))) 0:=by
 by_cases c:zhR w
 ·have h1:=Gz w;have h2:=ur w c.m;rw[Wo c]at h1;have e:decide (okW w)=decide (XY w):=by by_cases r:XY w<;>simp[okW,c,r]
  refine fon Tryz.func28 ?_;dsimp only[Tryz.f28];push_cast;refine cl h1 ?_;push_cast;refine cl h2 ?_;push_cast;exact dn (by push_cast [ze,zd,CLe,zf,e])
 ·have h1:=Gz w;rw[Wp c]at h1;have e:¬okW w:=fun h=>c h.1;refine fon Tryz.func28 ?_;dsimp only[Tryz.f28];push_cast;refine cl h1 ?_;push_cast;exact dn (by push_cast [ze,zd,CLe,zf,e])
end
section
open Go.RowKit
section
variable {G:zp}
theorem zep (n:Nat) (hn:n<=200000) (h0:0<n):Y8 Tryz.prog G 161 [.sc (.slice none 0 0),.sc (.int .i64 n)] [] 0 (fun r bx' m=>m=0/\∃ (c:Nat) (B:List C),n<=c/\c<=9223372036854775807/\B.length=c*5/\(B.all C.stayB)=true/\r = .bs 0 0 5 0 c/\bx' = [B]):=by
 have hp:((n:Int)<0)=False:=WH (by omega);have hq:((0:Int)<(n:Int))=True:=eq_true (by omega);refine foX (fun i=>if i=1000000+37 then [true,true] else []) Tryz.func161 ?_;dsimp only[Tryz.f161];push_cast [hp,hq];refine ⟨⟨by omega,by omega⟩,ze8 ziY zoA zjM rfl (by decide) rfl (by omega) (by omega) (by omega) (fun c h1 h2=>?_)⟩;push_cast;have hm:(n:Int).toNat=n:=by omega
 rw[hm]at h1;have h2:c<=9223372036854775807:=h2;refine ⟨by omega,by omega,_,[(List.replicate n [C.sc (.int .i64 0),C.sc (.int .i64 0),C.str [],C.str [],C.str []]).flatten++List.replicate ((c-n)*5) C.any],0,⟨⟨rfl,c,_,h1,h2,?_,?_,rfl,rfl⟩,Wc _⟩,[],rfl,rfl,?_,by push_cast [ze,zd,CLe,zf]⟩
 ·simp[hm];omega
 ·simp[O0,OL,C.stayB]
 ·push_cast [ze,zd,CLe,zf];exact zT (by simp[O0,OL,C.stayB])
theorem zcu:Fun Tryz.prog G 124 [.sc (.slice none 0 0),.sc (.int .i64 0)] (.sc (.slice none 0 0)) 0:=by
 refine fon Tryz.func124 ?_;dsimp only[Tryz.f124];push_cast;exact dn
theorem zeM (n:Nat) (hn:n<=200000) (h0:0<n):Y8 Tryz.prog G 124 [.sc (.slice none 0 0),.sc (.int .i64 n)] [] 0 (fun r bx' m=>m=0/\∃ (c:Nat) (B:List C),n<=c/\c<=9223372036854775807/\B.length=c*1/\(B.all C.stayB)=true/\r = .bs 0 0 1 0 c/\bx' = [B]):=by
 have hp:((n:Int)<0)=False:=WH (by omega);have hq:((0:Int)<(n:Int))=True:=eq_true (by omega);refine foX (fun i=>if i=1000000+30 then [true,true] else []) Tryz.func124 ?_;dsimp only[Tryz.f124];push_cast [hp,hq];refine ⟨⟨by omega,by omega⟩,ze8 HV zoA zhW rfl (by decide) rfl (by omega) (by omega) (by omega) (fun c h1 h2=>?_)⟩;push_cast;have hm:(n:Int).toNat=n:=by omega
 rw[hm]at h1;have h2:c<=9223372036854775807:=h2;refine ⟨by omega,by omega,_,[(List.replicate n [C.str []]).flatten++List.replicate ((c-n)*1) C.any],0,⟨⟨rfl,c,_,h1,h2,?_,?_,rfl,rfl⟩,Wc _⟩,[],rfl,rfl,?_,by push_cast [ze,zd,CLe,zf]⟩
 ·simp[hm];omega
 ·simp[O0,OL,C.stayB]
 ·push_cast [ze,zd,CLe,zf];exact zT (by simp[O0,OL,C.stayB])
end
end
section
open CA CB
open Go.RowKit
def szN (a b:Nat):Nat->Nat
 | 0=>0
 | 1=>a
 | _=>a+b
def zrb {α:Type} (a b:List α):Nat->List α
 | 0=>[]
 | 1=>a
 | _=>a++b
structure NT (k c:Nat) (a b:List (List C)) (j:Nat) (X:List C):Prop where
 len:X.length=c*k
 stay:(X.all C.stayB)=true
 cells:X.take (szN a.length b.length j*k)=(zrb a b j).flatten
theorem NT.step {k c:Nat} {a b r:List (List C)} {j:Nat} {X:List C} (h:NT k c a b j X) (hr:zrb a b (j+1)=zrb a b j++r) (hn:szN a.length b.length (j+1)=szN a.length b.length j+r.length) (hk:∀ x∈r,x.length=k) (hs:jl r) (hc:szN a.length b.length (j+1)<=c) :
  NT k c a b (j+1) (spl X (szN a.length b.length j*k) r.flatten):=by
 have hf:=zK hk;obtain ⟨h1,h2,h3⟩:=h;have hle:(szN a.length b.length j+r.length)*k<=c*k:=WS k (by omega);rw[Oq]at hle;refine ⟨by rw[Zq (by omega)];exact h1,?_,?_⟩
 ·unfold spl;rw[O0,O0,Wt,Wt];rw[WC]at h2;exact ⟨⟨WC.2 fun x hx=>h2 x (Ww hx),Y9 hs⟩,WC.2 fun x hx=>h2 x (WU hx)⟩
 ·unfold spl;rw[hn,Oq,hr,AU,←h3,WT,Ax];have e1:(X.take (szN a.length b.length j*k)).length=szN a.length b.length j*k:=by rw[W6];omega
  rw[e1,Wh (by omega),O1,Ax,←hf,Wh (Wb _)];simp
structure zqe (k c:Nat) (rows:List (List C)) (B:List C):Prop where
 fit:rows.length<=c
 max:c<=9223372036854775807
 len:B.length=c*k
 stay:(B.all C.stayB)=true
 cells:B.take (rows.length*k)=rows.flatten
theorem zqe.ok {c e i:Nat} {rows:List (List C)} {B:List C} {bx:List (List C)} (h:zqe k c rows B) (hb:bx[i]?=some B) (h0:0<rows.length) (hk:∀ r∈rows,r.length=k):zdq [(i,e,k,rows,c)] bx:=
 u6 hb (WL h0 h.fit) h.fit h.max h.len hk h.stay h.cells
section
variable {G:zp}
theorem yk (a b:List (List C)) (ka:∀ r∈a,r.length=5) (kb:∀ r∈b,r.length=5) (sa:jl a) (sb:jl b) (la:a.length<=90000) (lb:b.length<=90000) (h0:0<a.length+b.length) :
  Y8 Tryz.prog G 112 [.sl 1 [[.sl 5 a],[.sl 5 b]]] [] 0 (fun r bx n=>n=0/\∃ c B,zqe 5 c (a++b) B/\r = .bs 0 0 5 (a++b).length c/\bx = [B]):=by
 refine foX (fun i=>if i=1000000+37 then [true,true] else []) Tryz.func112 ?_;dsimp only[Tryz.f112];push_cast;refine loop (fun j:Nat=>⟨[(0,.sl 1 [[.sl 5 a],[.sl 5 b]]),(2,.sc (.slice none 0 0)),(3,.sc (.int .i64 (szN a.length b.length j:Nat))),(9,.sl 1 [[.sl 5 a],[.sl 5 b]]),(10,.sc (.int .i64 2)),(11,.sc (.int .i64 j))],[],0,0⟩) (fun j=>j<=2) (fun j=>2-j) 0 (by decide) ?_ ?_
 ·exact wk (by push_cast [ze,zd,CLe,zf,szN])
 intro j hj;obtain rfl | rfl | rfl:j=0∨j=1∨j=2:=by omega
 ·have hn:(((a.length:Int))<0)=False:=WH (by omega);push_cast [szN,hn];exact ⟨⟨by omega,by omega⟩,1,by decide,by decide,wk (by push_cast [ze,zd,CLe,zf,szN])⟩
 ·have hn:(((a.length:Int)+(b.length:Int))<0)=False:=WH (by omega);push_cast [szN,hn];exact ⟨⟨by omega,by omega⟩,2,by decide,by decide,wk (by push_cast [ze,zd,CLe,zf,szN])⟩
 ·push_cast [szN];refine j6 [] [] (zep (G:=G) (a.length+b.length) (by omega) (by omega)) rfl (by decide) (by decide) (by simp) (by push_cast) (by push_cast) (fun r bx' m hp=>?_);obtain ⟨rfl,c,B,h1,h2,h3,h4,rfl,rfl⟩:=hp;have hre:∀ fp fo,C.reL fp fo B=B:=fun fp fo=>zD h4;push_cast [hre];refine loop (fun p:Nat×List C=>⟨[(0,.sl 1 [[.sl 5 a],[.sl 5 b]]),(6,.bs 0 0 5 (szN a.length b.length p.1) c),(25,.sl 1 [[.sl 5 a],[.sl 5 b]]),(26,.sc (.int .i64 2)),(27,.sc (.int .i64 p.1))],[p.2],0,0⟩) (fun p=>p.1<=2/\NT 5 c a b p.1 p.2) (fun p=>2-p.1) (0,B) ⟨Wc _,h3,h4,by simp[szN,zrb]⟩ ?_ ?_
  ·exact JM.mk [] rfl rfl (Wc _) rfl (by push_cast [ze,zd,CLe,zf,szN]) (by (push_cast [ze,zd,CLe,zf];exact zT h4))
  rintro ⟨j,X⟩ ⟨hj,hX⟩;have hj:j<=2:=hj;obtain rfl | rfl | rfl:j=0∨j=1∨j=2:=by omega
  ·have hs:=hX.step (r:=a) rfl (by simp[szN]) ka sa (by simp[szN];omega);push_cast [szN];refine QZ ziY zjM rfl rfl (by decide) rfl (zK ka) rfl (by rw[hX.len];omega) (Wc _) (by omega) (by omega) (fun hc=>?_) (fun hc=>absurd hc (by omega));push_cast;have hs:NT 5 c a b 1 (spl X 0 a.flatten):=by simpa [szN] using hs
   exact ⟨(1,spl X 0 a.flatten),⟨Nat.le_succ 1,hs⟩,by (simp only;omega),JM.mk [] rfl rfl (Wc _) rfl (by push_cast [ze,zd,CLe,zf,szN]) (by (push_cast [ze,zd,CLe,zf];exact zT hs.stay))⟩
  ·have hs:=hX.step (r:=b) rfl (by simp[szN]) kb sb (by simp[szN];omega);push_cast [szN];refine QZ ziY zjM rfl rfl (by decide) rfl (zK kb) rfl (by rw[hX.len];omega) (by omega) (by omega) (by omega) (fun hc=>?_) (fun hc=>absurd hc (by omega));push_cast;have hs:NT 5 c a b 2 (spl X (a.length*5) b.flatten):=by simpa [szN] using hs
   exact ⟨(2,spl X (a.length*5) b.flatten),⟨Wb 2,hs⟩,by (simp only;omega),JM.mk [] rfl rfl (Wc _) rfl (by push_cast [ze,zd,CLe,zf,szN]) (by (push_cast [ze,zd,CLe,zf];exact zT hs.stay))⟩
  ·push_cast [szN];exact ⟨_,[X],0,⟨⟨rfl,c,X,⟨by rw[Wj];omega,h2,hX.len,hX.stay,by rw[Wj];exact hX.cells⟩,rfl,rfl⟩,Wc _⟩,[],rfl,rfl,by (push_cast [ze,zd,CLe,zf];exact zT hX.stay),by push_cast [ze,zd,CLe,zf,Wj]⟩
theorem yp (a b:List (List C)) (ka:∀ r∈a,r.length=1) (kb:∀ r∈b,r.length=1) (sa:jl a) (sb:jl b) (la:a.length<=90000) (lb:b.length<=90000) (h0:0<a.length+b.length) :
  Y8 Tryz.prog G 75 [.sl 1 [[.sl 1 a],[.sl 1 b]]] [] 0 (fun r bx n=>n=0/\∃ c B,zqe 1 c (a++b) B/\r = .bs 0 0 1 (a++b).length c/\bx = [B]):=by
 refine foX (fun i=>if i=1000000+30 then [true,true] else []) Tryz.func75 ?_;dsimp only[Tryz.f75];push_cast;refine loop (fun j:Nat=>⟨[(0,.sl 1 [[.sl 1 a],[.sl 1 b]]),(2,.sc (.slice none 0 0)),(3,.sc (.int .i64 (szN a.length b.length j:Nat))),(9,.sl 1 [[.sl 1 a],[.sl 1 b]]),(10,.sc (.int .i64 2)),(11,.sc (.int .i64 j))],[],0,0⟩) (fun j=>j<=2) (fun j=>2-j) 0 (by decide) ?_ ?_
 ·exact wk (by push_cast [ze,zd,CLe,zf,szN])
 intro j hj;obtain rfl | rfl | rfl:j=0∨j=1∨j=2:=by omega
 ·have hn:(((a.length:Int))<0)=False:=WH (by omega);push_cast [szN,hn];exact ⟨⟨by omega,by omega⟩,1,by decide,by decide,wk (by push_cast [ze,zd,CLe,zf,szN])⟩
 ·have hn:(((a.length:Int)+(b.length:Int))<0)=False:=WH (by omega);push_cast [szN,hn];exact ⟨⟨by omega,by omega⟩,2,by decide,by decide,wk (by push_cast [ze,zd,CLe,zf,szN])⟩
 ·push_cast [szN];refine j6 [] [] (zeM (G:=G) (a.length+b.length) (by omega) (by omega)) rfl (by decide) (by decide) (by simp) (by push_cast) (by push_cast) (fun r bx' m hp=>?_);obtain ⟨rfl,c,B,h1,h2,h3,h4,rfl,rfl⟩:=hp;have hre:∀ fp fo,C.reL fp fo B=B:=fun fp fo=>zD h4;push_cast [hre];refine loop (fun p:Nat×List C=>⟨[(0,.sl 1 [[.sl 1 a],[.sl 1 b]]),(6,.bs 0 0 1 (szN a.length b.length p.1) c),(25,.sl 1 [[.sl 1 a],[.sl 1 b]]),(26,.sc (.int .i64 2)),(27,.sc (.int .i64 p.1))],[p.2],0,0⟩) (fun p=>p.1<=2/\NT 1 c a b p.1 p.2) (fun p=>2-p.1) (0,B) ⟨Wc _,h3,h4,by simp[szN,zrb]⟩ ?_ ?_
  ·exact JM.mk [] rfl rfl (Wc _) rfl (by push_cast [ze,zd,CLe,zf,szN]) (by (push_cast [ze,zd,CLe,zf];exact zT h4))
  rintro ⟨j,X⟩ ⟨hj,hX⟩;have hj:j<=2:=hj;obtain rfl | rfl | rfl:j=0∨j=1∨j=2:=by omega
  ·have hs:=hX.step (r:=a) rfl (by simp[szN]) ka sa (by simp[szN];omega);push_cast [szN];refine QZ HV zhW rfl rfl (by decide) rfl (zK ka) rfl (by rw[hX.len];omega) (Wc _) (by omega) (by omega) (fun hc=>?_) (fun hc=>absurd hc (by omega));push_cast;have hs:NT 1 c a b 1 (spl X 0 a.flatten):=by simpa [szN] using hs
   exact ⟨(1,spl X 0 a.flatten),⟨Nat.le_succ 1,hs⟩,by (simp only;omega),JM.mk [] rfl rfl (Wc _) rfl (by push_cast [ze,zd,CLe,zf,szN]) (by (push_cast [ze,zd,CLe,zf];exact zT hs.stay))⟩
  ·have hs:=hX.step (r:=b) rfl (by simp[szN]) kb sb (by simp[szN];omega);push_cast [szN];refine QZ HV zhW rfl rfl (by decide) rfl (zK kb) rfl (by rw[hX.len];omega) (by omega) (by omega) (by omega) (fun hc=>?_) (fun hc=>absurd hc (by omega));push_cast;have hs:NT 1 c a b 2 (spl X (a.length) b.flatten):=by simpa [szN] using hs
   exact ⟨(2,spl X (a.length) b.flatten),⟨Wb 2,hs⟩,by (simp only;omega),JM.mk [] rfl rfl (Wc _) rfl (by push_cast [ze,zd,CLe,zf,szN]) (by (push_cast [ze,zd,CLe,zf];exact zT hs.stay))⟩
  ·push_cast [szN];exact ⟨_,[X],0,⟨⟨rfl,c,X,⟨by rw[Wj];omega,h2,hX.len,hX.stay,by rw[Wj];exact hX.cells⟩,rfl,rfl⟩,Wc _⟩,[],rfl,rfl,by (push_cast [ze,zd,CLe,zf];exact zT hX.stay),by push_cast [ze,zd,CLe,zf,Wj]⟩
theorem yy:Fun Tryz.prog G 75 [.sl 1 [[.sl 1 []],[.sl 1 []]]] (.sl 1 []) 0:=by
 refine fon Tryz.func75 ?_;dsimp only[Tryz.f75];push_cast;refine loop (fun j:Nat=>⟨[(0,.sl 1 [[.sl 1 []],[.sl 1 []]]),(2,.sc (.slice none 0 0)),(3,.sc (.int .i64 0)),(9,.sl 1 [[.sl 1 []],[.sl 1 []]]),(10,.sc (.int .i64 2)),(11,.sc (.int .i64 j))],[],0,0⟩) (fun j=>j<=2) (fun j=>2-j) 0 (by decide) ?_ ?_
 ·exact wk
 intro j hj;obtain rfl | rfl | rfl:j=0∨j=1∨j=2:=by omega
 ·push_cast;exact ⟨1,by decide,by decide,wk⟩
 ·push_cast;exact ⟨2,by decide,by decide,wk⟩
 ·push_cast;refine cl zcu ?_;push_cast;refine loop (fun j:Nat=>⟨[(0,.sl 1 [[.sl 1 []],[.sl 1 []]]),(6,.own 0 9 1 []),(25,.sl 1 [[.sl 1 []],[.sl 1 []]]),(26,.sc (.int .i64 2)),(27,.sc (.int .i64 j))],[],1,0⟩) (fun j=>j<=2) (fun j=>2-j) 0 (by decide) ?_ ?_
  ·exact wks [.inr (9,1)]
  intro j hj;obtain rfl | rfl | rfl:j=0∨j=1∨j=2:=by omega
  ·push_cast;exact ⟨1,by decide,by decide,wks [.inl 0]⟩
  ·push_cast;exact ⟨2,by decide,by decide,wks [.inl 0]⟩
  ·push_cast;exact dn
end
end
end Go.Proofs.YtaipngaejfndgaaGreatDoor.Vcg
section
namespace Go.Proofs.YtaipngaejfndgaaGreatDoor.Kit
open Go.RowKit
theorem GE {a b:ByteArray} (h:a=b):Ending.returned (.string a) = .returned (.string b):=by rw[h]
def toL (s:ByteArray):Lz:=s.data.toList
def ofL (l:Lz):ByteArray:=⟨l.toArray⟩
@[simp] theorem zgJ (l:Lz):toL (ofL l)=l:=by simp[toL,ofL]
@[simp] theorem zsB (s:ByteArray):ofL (toL s)=s:=by cases s;simp[toL,ofL]
theorem Gp (a b:Lz):ofL a++ofL b=ofL (a++b):=ByteArray.mk_append_mk a b
theorem Ma (s:ByteArray):(toL s).length=s.size:=WW
theorem ZR (l:Lz):(ofL l).size=l.length:=by rw[←Ma,zgJ]
def join (sep:ByteArray) (xs:List ByteArray):ByteArray:=⟨(Lib.join (xs.map (·.data.toList)) sep.data.toList).toArray⟩
theorem join_one (sep x:ByteArray):join sep [x]=x:=by
 cases x;simp[join,Lib.join_one]
end Go.Proofs.YtaipngaejfndgaaGreatDoor.Kit
end
section
namespace Go.Proofs.YtaipngaejfndgaaGreatDoor.Kit
open Go.RowKit
def byteCells (l:Lz):Array Value:=(l.map fun c=>Value.int .u8 (c.toNat:Int)).toArray
theorem UP (w:World) (l:Lz) (T:TypeId) (fr:Nat×Nat) (n:Nat) (hn:n=w.heap.size):Lib.Bytes (w.alloc (.cells (byteCells l) T fr)) n 0 (ofL l):=by
 intro i h;subst hn;have h1:(w.alloc (.cells (byteCells l) T fr)).heap[w.heap.size]?=some (.cells (byteCells l) T fr):=by
  show (w.heap.push _)[w.heap.size]?=_;rw[Array.getElem?_push,if_pos rfl]
 simp only[World.cell?,h1];show (byteCells l)[0+i]?=_;have h2:i<l.length:=by rw[ZR]at h;exact h
 rw[Ox,byteCells,Ac,Ws,Wa h2]
 rfl
theorem Nw {P:Program} (w:World) (l:Lz) (src e dst:TypeId) (hs:P.underlying src=some (.slice e)) (he:P.underlying e=some (.int .u8)) (hd:P.underlying dst=some .string) (cs:Array Value) (hcs:cs=byteCells l) (fr:Nat×Nat) (m cap n:Nat) (hm:m=w.heap.size) (hn:n=l.length) :
  (convert src dst (.slice (some ⟨m,0,none⟩) n cap)).run P (w.alloc (.cells cs e fr)) = .ok (.string (ofL l)) (w.alloc (.cells cs e fr)):=by
 subst hcs hm hn;have:=Lib.run_convert_whole (P:=P) (w.alloc (.cells (byteCells l) e fr)) src e dst hs he hd w.heap.size 0 (ofL l) (UP w l e fr _ rfl) cap;rw[ZR]at this;exact this
end Go.Proofs.YtaipngaejfndgaaGreatDoor.Kit
end
section
namespace Go.Proofs.YtaipngaejfndgaaGreatDoor
open Go.RowKit
namespace QuoteWalk
open Kit QuotePlain
theorem MC {c:UInt8} (h:good c=false):¬(32:Int)<=(c.toNat:Int)∨((32:Int)<=(c.toNat:Int)/\¬(c.toNat:Int)<=126)∨((32:Int)<=(c.toNat:Int)/\(c.toNat:Int)<=126/\((c.toNat:Int) != 34)=false) ∨
  ((32:Int)<=(c.toNat:Int)/\(c.toNat:Int)<=126/\((c.toNat:Int) != 34)=true/\((c.toNat:Int) != 92)=false):=by
 simp only[good,Ow]at h;simp only[bne_iff_ne,ne_eq,bne_eq_false_iff_eq];omega
theorem Gi {c:UInt8} (h:good c=true):(32:Int)<=(c.toNat:Int)/\(c.toNat:Int)<=126/\((c.toNat:Int) != 34)=true/\((c.toNat:Int) != 92)=true:=by
 simp only[good,W8]at h;refine ⟨by omega,by omega,?_,?_⟩<;>(simp only[bne_iff_ne,ne_eq];omega)
theorem vr (c:UInt8) (w:World) :
  Calls Tryz.prog 214 #[.int .u8 c.toNat] w fun e w'=>e = .returned (.bool (good c))/\w=w':=by
 have hc:=c.toNat_lt;cases hg:good c with
 | true =>
  obtain ⟨g1,g2,g3,g4⟩:=Gi hg;clear hg
  go_enter Tryz.func214,Tryz.ntmps214
  go_wp2
  go_ret
  exact ⟨rfl,rfl⟩
 | false =>
  rcases MC hg with h | ⟨h0,h⟩ | ⟨h0,h1,h2⟩ | ⟨h0,h1,h2,h3⟩
  all_goals clear hg
  ·go_enter Tryz.func214,Tryz.ntmps214
   go_wp2
   go_ret
   exact ⟨rfl,rfl⟩
  ·go_enter Tryz.func214,Tryz.ntmps214
   go_wp2
   go_ret
   exact ⟨rfl,rfl⟩
  ·go_enter Tryz.func214,Tryz.ntmps214
   go_wp2
   go_ret
   exact ⟨rfl,rfl⟩
  ·go_enter Tryz.func214,Tryz.ntmps214
   go_wp2
   go_ret
   exact ⟨rfl,rfl⟩
theorem xT (c:UInt8) (w:World) (hg:good c=true) :
  Calls Tryz.prog 118 #[.int .u8 c.toNat] w fun e w'=>e = .returned (.string (ofL (qb c)))/\Below w.heap.size w w':=by
 have hc:=c.toNat_lt;have hq:=Lib.hid (show qb c = [c] by rw[qb,if_pos hg]);obtain ⟨g1,g2,g3,g4⟩:=Gi hg;have hcv:=Nw (P:=Tryz.prog) w [c] 164 5 9 Tryz.underlying164 Tryz.underlying5 Tryz.underlying9 #[.int .u8 c.toNat] rfl (0,0) w.heap.size 1 1 rfl rfl;clear hg
 go_enter Tryz.func118,Tryz.ntmps118
 go_wp2
 go_ret
 exact ⟨by rw[hq.out];rfl,(W3 _ _).alloc (Wb _) _⟩
theorem zs8 (n:Nat) (h:n<16) (w:World):(Instr.index 9 (.string ⟨#[48,49,50,51,52,53,54,55,56,57,97,98,99,100,101,102]⟩) (.int .u8 (n:Int))).run Tryz.prog w = .ok (.int .u8 ((NS n).toNat:Int)) w:=by
 rcases (by omega:n=0∨n=1∨n=2∨n=3∨n=4∨n=5∨n=6∨n=7∨n=8∨n=9∨n=10∨n=11∨n=12∨n=13∨n=14∨n=15) with rfl | rfl | rfl | rfl | rfl | rfl | rfl | rfl | rfl | rfl | rfl | rfl | rfl | rfl | rfl | rfl
 all_goals kernel_rfl
theorem zla (c:UInt8) (w:World):(Instr.index 9 (.string ⟨#[48,49,50,51,52,53,54,55,56,57,97,98,99,100,101,102]⟩) (.int .u8 ((c.toNat:Int) / 16))).run Tryz.prog w = .ok (.int .u8 ((NS (c.toNat / 16)).toNat:Int)) w:=
 zs8 (c.toNat / 16) (by have:=c.toNat_lt;omega) w
theorem zlk (c:UInt8) (w:World):(Instr.index 9 (.string ⟨#[48,49,50,51,52,53,54,55,56,57,97,98,99,100,101,102]⟩) (.int .u8 ((c.toNat:Int) % 16))).run Tryz.prog w = .ok (.int .u8 ((NS (c.toNat % 16)).toNat:Int)) w:=
 zs8 (c.toNat % 16) (by omega) w
theorem zlN (c:UInt8):IntKind.u8.wrap ((c.toNat:Int) / 16)=(c.toNat:Int) / 16:=by
 have:=c.toNat_lt;exact IntWalk.u8_in _ (by omega)
theorem zmV (c:UInt8):IntKind.u8.wrap ((c.toNat:Int) % 16)=(c.toNat:Int) % 16:=by
 have:=c.toNat_lt;exact IntWalk.u8_in _ (by omega)
theorem zny (c:UInt8):(c.toNat:Int).tmod 16=(c.toNat:Int) % 16:=Int.tmod_eq_emod_of_nonneg (by omega)
theorem v6 (c:UInt8) (w:World) (hg:good c=false) :
  Calls Tryz.prog 118 #[.int .u8 c.toNat] w fun e w'=>e = .returned (.string (ofL (qb c)))/\Below w.heap.size w w':=by
 have hc:=c.toNat_lt;have hq:=Lib.hid (show qb c = [92,120,NS (c.toNat / 16),NS (c.toNat % 16)] by rw[qb,hg];rfl);have hb:=MC hg;have x1:=zla c;have x2:=zlk c;have y1:=zlN c;have y2:=zmV c;have y3:=zny c;have hcv:=fun w2:World=>Nw (P:=Tryz.prog) w2 [92,120,NS (c.toNat / 16),NS (c.toNat % 16)] 164 5 9 Tryz.underlying164 Tryz.underlying5 Tryz.underlying9 #[.int .u8 92,.int .u8 120,.int .u8 (NS (c.toNat / 16)).toNat,.int .u8 (NS (c.toNat % 16)).toNat] rfl (0,0) w2.heap.size 4 4 rfl rfl;clear hg;rcases hb with h | ⟨h0,h⟩ | ⟨h0,h1,h2⟩ | ⟨h0,h1,h2,h3⟩
 ·go_enter Tryz.func118,Tryz.ntmps118
  go_wp2
  go_still_tail 6,(by kernel_rfl)
  change wpList _ _ _ _ _ w.drew;obtain ⟨w2,hw2,hsz⟩:∃ w2:World,Below w.heap.size w w2/\w2=w.drew:=⟨_,(W3 _ _).drew,rfl⟩;rw[←hsz];clear hsz
  go_wp2
  go_ret
  exact ⟨by rw[hq.out];rfl,hw2.alloc hw2.size _⟩
 ·go_enter Tryz.func118,Tryz.ntmps118
  go_wp2
  go_still_tail 6,(by kernel_rfl)
  change wpList _ _ _ _ _ w.drew;obtain ⟨w2,hw2,hsz⟩:∃ w2:World,Below w.heap.size w w2/\w2=w.drew:=⟨_,(W3 _ _).drew,rfl⟩;rw[←hsz];clear hsz
  go_wp2
  go_ret
  exact ⟨by rw[hq.out];rfl,hw2.alloc hw2.size _⟩
 ·go_enter Tryz.func118,Tryz.ntmps118
  go_wp2
  go_still_tail 6,(by kernel_rfl)
  change wpList _ _ _ _ _ w.drew;obtain ⟨w2,hw2,hsz⟩:∃ w2:World,Below w.heap.size w w2/\w2=w.drew:=⟨_,(W3 _ _).drew,rfl⟩;rw[←hsz];clear hsz
  go_wp2
  go_ret
  exact ⟨by rw[hq.out];rfl,hw2.alloc hw2.size _⟩
 ·go_enter Tryz.func118,Tryz.ntmps118
  go_wp2
  go_still_tail 6,(by kernel_rfl)
  change wpList _ _ _ _ _ w.drew;obtain ⟨w2,hw2,hsz⟩:∃ w2:World,Below w.heap.size w w2/\w2=w.drew:=⟨_,(W3 _ _).drew,rfl⟩;rw[←hsz];clear hsz
  go_wp2
  go_ret
  exact ⟨by rw[hq.out];rfl,hw2.alloc hw2.size _⟩
theorem MZ (c:UInt8) (w:World) :
  Calls Tryz.prog 118 #[.int .u8 c.toNat] w fun e w'=>e = .returned (.string (ofL (qb c)))/\Below w.heap.size w w':=by
 cases h:good c with
 | true=>exact xT c w h
 | false=>exact v6 c w h
end QuoteWalk
end Go.Proofs.YtaipngaejfndgaaGreatDoor
end
section
namespace Go.Proofs
open YtaipngaejfndgaaGreatDoor
open Go.Shelf
def Tryz.zlays166_ren:Go.Shelf.Ren:=⟨fun | 166=>174 | 240=>215 | 276=>249 | n=>n,fun | 0=>0 | 3=>3 | 4=>4 | 9=>9 | 20=>20 | 37=>164 | 70=>207 | 72=>209 | 75=>212 | 164=>270 | 80=>215 | 5=>5 | n=>n,fun | n=>n⟩
theorem Tryz.zlays166:Go.Proofs.Lays.n166 Tryz.prog Tryz.zlays166_ren:={
 mixed:=by kernel_rfl
 f166:=Tryz.func174.trans (WA some (by kernel_rfl))
 f240:=Tryz.func215.trans (WA some (by kernel_rfl))
 f276:=Tryz.func249.trans (WA some (by kernel_rfl))
 t0:=Tryz.underlying0
 a0:=Tryz.isAgg0
 z0:=Tryz.sizeOf0
 v0:=Tryz.zeroValue0
 t3:=Tryz.underlying3
 a3:=Tryz.isAgg3
 z3:=Tryz.sizeOf3
 v3:=Tryz.zeroValue3
 t4:=Tryz.underlying4
 a4:=Tryz.isAgg4
 z4:=Tryz.sizeOf4
 v4:=Tryz.zeroValue4
 t9:=Tryz.underlying9
 a9:=Tryz.isAgg9
 z9:=Tryz.sizeOf9
 v9:=Tryz.zeroValue9
 t20:=Tryz.underlying20
 a20:=Tryz.isAgg20
 z20:=Tryz.sizeOf20
 v20:=Tryz.zeroValue20
 t37:=Tryz.underlying164
 a37:=Tryz.isAgg164
 z37:=Tryz.sizeOf164
 v37:=Tryz.zeroValue164
 t70:=Tryz.underlying207
 a70:=Tryz.isAgg207
 z70:=Tryz.sizeOf207
 v70:=Tryz.zeroValue207
 t72:=Tryz.underlying209
 a72:=Tryz.isAgg209
 z72:=Tryz.sizeOf209
 v72:=Tryz.zeroValue209
 t75:=Tryz.underlying212
 a75:=Tryz.isAgg212
 z75:=Tryz.sizeOf212
 v75:=Tryz.zeroValue212
 t164:=Tryz.underlying270
 a164:=Tryz.isAgg270
 z164:=Tryz.sizeOf270
 v164:=Tryz.zeroValue270 }
theorem Tryz.zBuilder_Extra_166:Builder.Extra Tryz.prog Tryz.zlays166_ren:={
 sizeBuilder:=by kernel_rfl
 liesBuilder:=by kernel_rfl
 t5:=Tryz.underlying5
 a5:=Tryz.isAgg5
 z5:=Tryz.sizeOf5
 v5:=Tryz.zeroValue5
 infoByte:=by kernel_rfl
 cellsByte:=by kernel_rfl
 sizeByte:=by kernel_rfl
 neB5:=by decide }
def Tryz.zlays167_ren:Go.Shelf.Ren:=⟨fun | 167=>213 | 240=>215 | 276=>249 | n=>n,fun | 0=>0 | 4=>4 | 5=>5 | 9=>9 | 20=>20 | 37=>164 | 70=>207 | 72=>209 | 75=>212 | 164=>270 | 80=>215 | n=>n,fun | n=>n⟩
theorem Tryz.zlays167:Go.Proofs.Lays.n167 Tryz.prog Tryz.zlays167_ren:={
 mixed:=by kernel_rfl
 f167:=Tryz.func213.trans (WA some (by kernel_rfl))
 f240:=Tryz.func215.trans (WA some (by kernel_rfl))
 f276:=Tryz.func249.trans (WA some (by kernel_rfl))
 t0:=Tryz.underlying0
 a0:=Tryz.isAgg0
 z0:=Tryz.sizeOf0
 v0:=Tryz.zeroValue0
 t4:=Tryz.underlying4
 a4:=Tryz.isAgg4
 z4:=Tryz.sizeOf4
 v4:=Tryz.zeroValue4
 t5:=Tryz.underlying5
 a5:=Tryz.isAgg5
 z5:=Tryz.sizeOf5
 v5:=Tryz.zeroValue5
 t9:=Tryz.underlying9
 a9:=Tryz.isAgg9
 z9:=Tryz.sizeOf9
 v9:=Tryz.zeroValue9
 t20:=Tryz.underlying20
 a20:=Tryz.isAgg20
 z20:=Tryz.sizeOf20
 v20:=Tryz.zeroValue20
 t37:=Tryz.underlying164
 a37:=Tryz.isAgg164
 z37:=Tryz.sizeOf164
 v37:=Tryz.zeroValue164
 t70:=Tryz.underlying207
 a70:=Tryz.isAgg207
 z70:=Tryz.sizeOf207
 v70:=Tryz.zeroValue207
 t72:=Tryz.underlying209
 a72:=Tryz.isAgg209
 z72:=Tryz.sizeOf209
 v72:=Tryz.zeroValue209
 t75:=Tryz.underlying212
 a75:=Tryz.isAgg212
 z75:=Tryz.sizeOf212
 v75:=Tryz.zeroValue212
 t164:=Tryz.underlying270
 a164:=Tryz.isAgg270
 z164:=Tryz.sizeOf270
 v164:=Tryz.zeroValue270 }
theorem Tryz.zBuilder_Extra_167:Builder.Extra Tryz.prog Tryz.zlays167_ren:={
 sizeBuilder:=by kernel_rfl
 liesBuilder:=by kernel_rfl
 t5:=Tryz.underlying5
 a5:=Tryz.isAgg5
 z5:=Tryz.sizeOf5
 v5:=Tryz.zeroValue5
 infoByte:=by kernel_rfl
 cellsByte:=by kernel_rfl
 sizeByte:=by kernel_rfl
 neB5:=by decide }
open Go.RowKit in
theorem Tryz.zBuilder_WriteByte (B b:Nat) (bs:List Value) (c:Int) (w:World) (h:Lib.IsBuilder 209 5 B b bs w) (hlen:bs.length+1<=140737488355328) (hBw:B<=w.heap.size) :
  Calls Tryz.prog 213 #[.pointer (some ⟨b,0,none⟩),.int .u8 c] w fun e w'=>e = .returned .nilIface/\(Lib.BuilderAt 209 5 B b (.pointer (some ⟨b,0,none⟩)) (bs++[.int .u8 c]) w'/\Below B w w'):=Any.Builder_WriteByte Tryz.zlays167 Tryz.zBuilder_Extra_167 B b bs c w h hlen hBw
open Go.RowKit in
theorem Tryz.zBuilder_WriteString (B b:Nat) (bs:List Value) (s:ByteArray) (w:World) (h:Lib.IsBuilder 209 5 B b bs w) (hlen:bs.length+s.size<=140737488355328) (hBw:B<=w.heap.size) :
  Calls Tryz.prog 174 #[.pointer (some ⟨b,0,none⟩),.string s] w fun e w'=>e = .returned (.tuple #[.int .i64 s.size,.nilIface])/\(Lib.BuilderAt 209 5 B b (.pointer (some ⟨b,0,none⟩)) (bs++Lib.strCells s) w'/\Below B w w'):=Any.Builder_WriteString Tryz.zlays166 Tryz.zBuilder_Extra_166 B b bs s w h hlen hBw
end Go.Proofs
end
section
namespace Go.Proofs.YtaipngaejfndgaaGreatDoor
open Go.RowKit
namespace QuoteWalk
open Kit QuotePlain
def pre (s:ByteArray) (k:Nat):Bs:=34 :: mid ((toL s).take k)
theorem zby (s:ByteArray):pre s 0 = [34]:=by simp[pre,mid]
theorem zaR (s:ByteArray) (k:Nat) (h:k<s.size) {c:UInt8} (hc:s[k]=c):pre s (k+1)=pre s k++qb c:=by
 have h':k<(toL s).length:=by rw[Ma];exact h
 have:(toL s)[k]=c:=hc;rw[pre,pre,OV h',this,mid,mid,Bl];simp
theorem zhe (s:ByteArray) (k:Nat) (h:s.size<=k):pre s k++[34]=qG (toL s):=by
 rw[pre,Wh (by rw[Ma];exact h)];rfl
theorem zlJ (c:UInt8):(qb c).length<=4:=by unfold qb;split<;>simp
theorem mid_len (l:Bs):(mid l).length<=4*l.length:=by
 induction l with
 | nil=>simp[mid]
 | cons c l ih =>
  have:=zlJ c;simp only[mid,As,Wj,Wg]at ih ⊢;omega
theorem zej (s:ByteArray) (k:Nat):(pre s k).length<=1+4*k:=by
 have h1:=mid_len ((toL s).take k);have h2:((toL s).take k).length<=k:=List.length_take_le _ _;simp only[pre,Wg];omega
theorem refQuote_walk (s:ByteArray) (w:World) (hs:s.size<=1099511627776) :
  Calls Tryz.prog 67 #[.string s] w fun e w'=>e = .returned (.string (ofL (qG (toL s))))/\Below w.heap.size w w':=by
 go_enter Tryz.func67,Tryz.ntmps67
 go_wp2
 go_loopw [3,4] (fun o i wr=>∃ k:Nat,k<=s.size/\i = .int .i64 k/\o = .string (ofL (pre s k))/\Below w.heap.size w wr) (fun _ i _=>s.size-(intOf i).toNat)
 case atStart=>exact ⟨0,by omega,rfl,by rw[zby];rfl,W3 _ _⟩
 case round =>
  obtain ⟨k,hk,rfl,rfl,hB⟩:=hrel;have hpl:=zej s k;have hps:(ofL (pre s k)).size<=1+4*k:=by rw[ZR];exact hpl
  by_cases hlt:k<s.size
  ·obtain ⟨c,hc⟩:∃ c,s[k]=c:=⟨_,rfl⟩;have hsn:=Lib.hid (zaR s k hlt hc);have hql:=zlJ c;have hqs:(ofL (qb c)).size<=4:=by rw[ZR];exact hql
   generalize hp:ofL (pre s k)=p at *;have hp':=Lib.hid hp;clear hp
   go_wp2_with fail
   refine (MZ c _).mono ?_;rintro e w1 ⟨rfl,hb1⟩;generalize hq:ofL (qb c)=q at *;have hq':=Lib.hid hq;clear hq
   go_wp2
   go_roundw
   case rel=>exact ⟨k+1,by omega,by go_num,by rw[hsn.out,←Gp,hp'.out,hq'.out],hB.trans (hb1.mono hB.size)⟩
   case measure=>simp[intOf];omega
  ·have hfin:=Lib.hid (zhe s k (by omega));generalize hp:ofL (pre s k)=p at *;have hp':=Lib.hid hp;clear hp
   go_wp2
   go_ret
   exact ⟨GE (by rw[←hp'.out,←hfin.out,←Gp];rfl),hB⟩
def Bld (B:Nat) (l:Bs) (w:World):Prop:=Lib.BuilderAt 209 5 B B (.pointer (some ⟨B,0,none⟩)) (Lib.byteCells l) w
theorem Bld.alloc {B:Nat} {l:Bs} {w:World} (h:Bld B l w) (o:Obj):Bld B l (w.alloc o):=by
 obtain ⟨h1,v,h2,h3,h4⟩:=h;refine ⟨h1,v,?_,h3.alloc o,h4⟩;rw[Lib.alloc_old _ _ _ (AA.1 h2).1];exact h2
theorem Bld.drew {B:Nat} {l:Bs} {w:World} (h:Bld B l w):Bld B l w.drew:=h
theorem MI (B:Nat) (l:Bs) (c:UInt8) (w:World) (h:Bld B l w) (hl:l.length<140737488355328) (hB:B<=w.heap.size) :
  Calls Tryz.prog 213 #[.pointer (some ⟨B,0,none⟩),.int .u8 (c.toNat:Int)] w fun e w'=>e = .returned .nilIface/\Bld B (l++[c]) w'/\Below B w w':=by
 refine (Tryz.zBuilder_WriteByte B B (Lib.byteCells l) c.toNat w (.inr h) (by rw[Lib.byteCells_length];omega) hB).mono ?_;rintro e w' ⟨h1,h2,h3⟩;exact ⟨h1,by rw[Bld,Lib.byteCells_append];exact h2,h3⟩
theorem zds (w:World) (c:UInt8) :
  Calls Tryz.prog 213 #[.pointer (some ⟨w.heap.size,0,none⟩),.int .u8 (c.toNat:Int)] (w.alloc (.cells #[.pointer none,.slice none 0 0] 209 (0,0))) fun e w'=>e = .returned .nilIface/\Bld w.heap.size [c] w'/\Below w.heap.size w w':=by
 refine (Tryz.zBuilder_WriteByte w.heap.size w.heap.size [] c.toNat _ (Lib.fresh_isBuilder _ _ w) (by decide) (by simp)).mono ?_;rintro e w' ⟨h1,h2,h3⟩;exact ⟨h1,h2,((W3 _ _).alloc (Wb _) _).trans h3⟩
theorem uR (B:Nat) (l:Bs) (x:ByteArray) (w:World) (h:Bld B l w) (hl:l.length+x.size<=140737488355328) (hB:B<=w.heap.size) :
  Calls Tryz.prog 174 #[.pointer (some ⟨B,0,none⟩),.string x] w fun e w'=>e = .returned (.tuple #[.int .i64 x.size,.nilIface])/\Bld B (l++toL x) w'/\Below B w w':=by
 refine (Tryz.zBuilder_WriteString B B (Lib.byteCells l) x w (.inr h) (by rw[Lib.byteCells_length];omega) hB).mono ?_;rintro e w' ⟨h1,h2,h3⟩;exact ⟨h1,by rw[Bld,Lib.byteCells_append];exact h2,h3⟩
theorem zd1 (B:Nat) (l:Bs) (w:World) (h:Bld B l w) (hB:B<=w.heap.size) :
  Calls Tryz.prog 175 #[.pointer (some ⟨B,0,none⟩)] w fun e w'=>e = .returned (.string (ofL l))/\Below B w w':=
 Tryz.Builder_String_any B B l w (.inr h) hB
theorem zqA (c:UInt8):bits BinOp.and IntKind.u8 (c.toNat:Int) 15=(c.toNat:Int) % 16:=by
 have:=zhF (p:=fun c=>decide (bits BinOp.and IntKind.u8 (c.toNat:Int) 15=(c.toNat:Int) % 16)) (by decide +kernel) c;exact WQ this
theorem quote_walk (s:ByteArray) (w:World) (hs:s.size<=1099511627776) :
  Calls Tryz.prog 171 #[.string s] w fun e w'=>e = .returned (.string (ofL (qG (toL s))))/\Below w.heap.size w w':=by
 go_enter Tryz.func171,Tryz.ntmps171
 go_wp2_with fail
 refine (zds w 34).mono ?_;rintro e w1 ⟨rfl,hI1,hB1⟩
 go_wp2_with fail
 go_loopw [9] (fun i wr=>∃ k:Nat,k<=s.size/\i = .int .i64 k/\Bld w.heap.size (pre s k) wr/\Below w.heap.size w wr) (fun i _=>s.size-(intOf i).toNat)
 case atStart=>exact ⟨0,by omega,rfl,by rw[zby];exact hI1,hB1⟩
 case round =>
  obtain ⟨k,hk,rfl,hI,hB⟩:=hrel;clear hI1 hB1;have hpl:=zej s k;by_cases hlt:k<s.size
  ·obtain ⟨c,hc⟩:∃ c,s[k]=c:=⟨_,rfl⟩;have hsn:=Lib.hid (zaR s k hlt hc)
   go_wp2_with fail
   refine (vr c _).mono ?_;rintro e w' ⟨rfl,rfl⟩;cases hg:good c with
   | true =>
    have hq:=Lib.hid (show qb c = [c] by rw[qb,if_pos hg]);clear hg
    go_wp2_with fail
    refine (MI w.heap.size (pre s k) c _ hI (by omega) hB.size).mono ?_;rintro e w2 ⟨rfl,hI2,hb2⟩
    go_wp2
    go_roundw
    case rel=>exact ⟨k+1,by omega,by go_num,by rw[hsn.out,hq.out];exact hI2,hB.trans hb2⟩
    case measure=>simp[intOf];omega
   | false =>
    have hq:=Lib.hid (show qb c = [92,120,NS (c.toNat / 16),NS (c.toNat % 16)] by rw[qb,hg];rfl);clear hg;have x1:=zla c;have x2:=zlk c;have x3:=zqA c;have hcv:=fun w2:World=>Nw (P:=Tryz.prog) w2 [92,120,NS (c.toNat / 16),NS (c.toNat % 16)] 164 5 9 Tryz.underlying164 Tryz.underlying5 Tryz.underlying9 #[.int .u8 92,.int .u8 120,.int .u8 (NS (c.toNat / 16)).toNat,.int .u8 (NS (c.toNat % 16)).toNat] rfl (0,0) w2.heap.size 4 4 rfl rfl
    go_wp2_with fail
    go_still_tail 6,(by kernel_rfl)
    change wpList _ _ _ _ _ wr.drew;obtain ⟨w2,hw2,hI2,hsz⟩:∃ w2:World,Below w.heap.size w w2/\Bld w.heap.size (pre s k) w2/\w2=wr.drew:=⟨_,hB.drew,hI.drew,rfl⟩;rw[←hsz];clear hsz hI hB
    go_wp2_with fail
    refine (uR w.heap.size (pre s k) (ofL [92,120,NS (c.toNat / 16),NS (c.toNat % 16)]) _ (hI2.alloc _) (by rw[ZR];show _+4<=_;omega) (by have:=hw2.size;simp;omega)).mono ?_;rintro e w3 ⟨rfl,hI3,hb3⟩;rw[zgJ]at hI3;have hB3:=(hw2.alloc hw2.size _).trans hb3;clear hb3 hcv x1 x2 x3 hI2
    go_wp2
    go_roundw
    case rel=>exact ⟨k+1,by omega,by go_num,by rw[hsn.out,hq.out];exact hI3,hB3⟩
    case measure=>simp[intOf];omega
  ·have hfin:=Lib.hid (zhe s k (by omega))
   go_wp2_with fail
   refine (MI w.heap.size (pre s k) 34 _ hI (by omega) hB.size).mono ?_;rintro e w2 ⟨rfl,hI2,hb2⟩
   go_wp2_with fail
   refine (zd1 w.heap.size _ _ hI2 (hB.trans hb2).size).mono ?_;rintro e w3 ⟨rfl,hb3⟩
   go_wp2
   go_ret
   exact ⟨GE (by rw[hfin.out]),(hB.trans hb2).trans hb3⟩
end QuoteWalk
end Go.Proofs.YtaipngaejfndgaaGreatDoor
end
namespace Go.Proofs.YtaipngaejfndgaaGreatDoor.Vcg
variable {k N:Nat} {w:qR} {f:FsV} {args:List C} {n p:Int} {ns:List Lz} {l:List (Int×Int)} {xs:List zn} {d:qn} {b:Lz}
section
open Go.RowKit
def phr:List Lz:=[[],[99,97,110,110,111,116,32,99,114,101,97,116,101,32,100,105,114,101,99,116,111,114,121,32,65,58,32,69],[99,97,110,110,111,116,32,114,101,109,111,118,101,32,65,58,32,69],[114,101,102,117,115,105,110,103,32,116,111,32,114,101,109,111,118,101,32,34,46,34,32,111,114,32,34,46,46,34,32,100,105,114,101,99,116,111,114,121,58,32,115,107,105,112,112,105,110,103,32,65],[105,116,32,105,115,32,100,97,110,103,101,114,111,117,115,32,116,111,32,111,112,101,114,97,116,101,32,114,101,99,117,114,115,105,118,101,108,121,32,111,110,32,65],[102,97,105,108,101,100,32,116,111,32,97,99,99,101,115,115,32,65,58,32,69],[65,58,32,104,97,114,100,32,108,105,110,107,32,110,111,116,32,97,108,108,111,119,101,100,32,102,111,114,32,100,105,114,101,99,116,111,114,121],[102,97,105,108,101,100,32,116,111,32,99,114,101,97,116,101,32,104,97,114,100,32,108,105,110,107,32,66,58,32,69],[102,97,105,108,101,100,32,116,111,32,99,114,101,97,116,101,32,115,121,109,98,111,108,105,99,32,108,105,110,107,32,66,58,32,69],[65,32,97,110,100,32,66,32,97,114,101,32,116,104,101,32,115,97,109,101,32,102,105,108,101],[116,97,114,103,101,116,32,65,32,105,115,32,110,111,116,32,97,32,100,105,114,101,99,116,111,114,121],[99,97,110,110,111,116,32,115,116,97,116,32,65,58,32,69],[99,97,110,110,111,116,32,111,118,101,114,119,114,105,116,101,32,110,111,110,45,100,105,114,101,99,116,111,114,121,32,66,32,119,105,116,104,32,100,105,114,101,99,116,111,114,121,32,65],[99,97,110,110,111,116,32,111,118,101,114,119,114,105,116,101,32,100,105,114,101,99,116,111,114,121,32,66,32,119,105,116,104,32,110,111,110,45,100,105,114,101,99,116,111,114,121,32,65],[99,97,110,110,111,116,32,109,111,118,101,32,65,32,116,111,32,97,32,115,117,98,100,105,114,101,99,116,111,114,121,32,111,102,32,105,116,115,101,108,102,44,32,66],[99,97,110,110,111,116,32,109,111,118,101,32,65,32,116,111,32,66,58,32,69],[45,114,32,110,111,116,32,115,112,101,99,105,102,105,101,100,59,32,111,109,105,116,116,105,110,103,32,100,105,114,101,99,116,111,114,121,32,65],[99,97,110,110,111,116,32,99,114,101,97,116,101,32,114,101,103,117,108,97,114,32,102,105,108,101,32,66,58,32,69],[99,97,110,110,111,116,32,99,114,101,97,116,101,32,115,121,109,98,111,108,105,99,32,108,105,110,107,32,66,58,32,69],[99,97,110,110,111,116,32,99,111,112,121,32,97,32,100,105,114,101,99,116,111,114,121,44,32,65,44,32,105,110,116,111,32,105,116,115,101,108,102,44,32,66],[110,111,116,32,119,114,105,116,105,110,103,32,116,104,114,111,117,103,104,32,100,97,110,103,108,105,110,103,32,115,121,109,108,105,110,107,32,66],[101,114,114,111,114,32,119,114,105,116,105,110,103,32,66,58,32,69],[99,97,110,110,111,116,32,99,114,101,97,116,101,32,100,105,114,101,99,116,111,114,121,32,66,58,32,69]]
def zs9:List Lz:=[[83,117,99,99,101,115,115],[78,111,32,115,117,99,104,32,102,105,108,101,32,111,114,32,100,105,114,101,99,116,111,114,121],[70,105,108,101,32,101,120,105,115,116,115],[78,111,116,32,97,32,100,105,114,101,99,116,111,114,121],[73,115,32,97,32,100,105,114,101,99,116,111,114,121],[68,105,114,101,99,116,111,114,121,32,110,111,116,32,101,109,112,116,121],[84,111,111,32,109,97,110,121,32,108,101,118,101,108,115,32,111,102,32,115,121,109,98,111,108,105,99,32,108,105,110,107,115],[70,105,108,101,32,110,97,109,101,32,116,111,111,32,108,111,110,103],[78,111,32,115,112,97,99,101,32,108,101,102,116,32,111,110,32,100,101,118,105,99,101],[73,110,118,97,108,105,100,32,97,114,103,117,109,101,110,116],[68,101,118,105,99,101,32,111,114,32,114,101,115,111,117,114,99,101,32,98,117,115,121],[79,112,101,114,97,116,105,111,110,32,110,111,116,32,112,101,114,109,105,116,116,101,100],[77,97,108,102,111,114,109,101,100,32,116,101,120,116],[78,111,116,32,105,110,32,116,104,101,32,115,116,97,115,104]]
def zrs:List Value:=[.string ⟨#[]⟩,.string ⟨#[]⟩,.int .i64 0,.string ⟨#[109,107,100,105,114]⟩,.string ⟨#[112]⟩,.int .i64 1,.string ⟨#[114,109]⟩,.string ⟨#[82,100,102,114]⟩,.int .i64 1,.string ⟨#[108,110]⟩,.string ⟨#[84,102,110,115]⟩,.int .i64 1,.string ⟨#[109,118]⟩,.string ⟨#[84,102,110]⟩,.int .i64 2,.string ⟨#[99,112]⟩,.string ⟨#[80,82,84,102,110,114]⟩,.int .i64 2]
def G2:zp:=fun g=>if g=1 then some (phr.map C.str) else if g=0 then some (zrs.map zC) else if g=4 then some (zs9.map C.str) else none
theorem zqR:G2 1=some [.str [],.str [99,97,110,110,111,116,32,99,114,101,97,116,101,32,100,105,114,101,99,116,111,114,121,32,65,58,32,69],.str [99,97,110,110,111,116,32,114,101,109,111,118,101,32,65,58,32,69],.str [114,101,102,117,115,105,110,103,32,116,111,32,114,101,109,111,118,101,32,34,46,34,32,111,114,32,34,46,46,34,32,100,105,114,101,99,116,111,114,121,58,32,115,107,105,112,112,105,110,103,32,65],.str [105,116,32,105,115,32,100,97,110,103,101,114,111,117,115,32,116,111,32,111,112,101,114,97,116,101,32,114,101,99,117,114,115,105,118,101,108,121,32,111,110,32,65],.str [102,97,105,108,101,100,32,116,111,32,97,99,99,101,115,115,32,65,58,32,69],.str [65,58,32,104,97,114,100,32,108,105,110,107,32,110,111,116,32,97,108,108,111,119,101,100,32,102,111,114,32,100,105,114,101,99,116,111,114,121],.str [102,97,105,108,101,100,32,116,111,32,99,114,101,97,116,101,32,104,97,114,100,32,108,105,110,107,32,66,58,32,69],.str [102,97,105,108,101,100,32,116,111,32,99,114,101,97,116,101,32,115,121,109,98,111,108,105,99,32,108,105,110,107,32,66,58,32,69],.str [65,32,97,110,100,32,66,32,97,114,101,32,116,104,101,32,115,97,109,101,32,102,105,108,101],.str [116,97,114,103,101,116,32,65,32,105,115,32,110,111,116,32,97,32,100,105,114,101,99,116,111,114,121],.str [99,97,110,110,111,116,32,115,116,97,116,32,65,58,32,69],.str [99,97,110,110,111,116,32,111,118,101,114,119,114,105,116,101,32,110,111,110,45,100,105,114,101,99,116,111,114,121,32,66,32,119,105,116,104,32,100,105,114,101,99,116,111,114,121,32,65],.str [99,97,110,110,111,116,32,111,118,101,114,119,114,105,116,101,32,100,105,114,101,99,116,111,114,121,32,66,32,119,105,116,104,32,110,111,110,45,100,105,114,101,99,116,111,114,121,32,65],.str [99,97,110,110,111,116,32,109,111,118,101,32,65,32,116,111,32,97,32,115,117,98,100,105,114,101,99,116,111,114,121,32,111,102,32,105,116,115,101,108,102,44,32,66],.str [99,97,110,110,111,116,32,109,111,118,101,32,65,32,116,111,32,66,58,32,69],.str [45,114,32,110,111,116,32,115,112,101,99,105,102,105,101,100,59,32,111,109,105,116,116,105,110,103,32,100,105,114,101,99,116,111,114,121,32,65],.str [99,97,110,110,111,116,32,99,114,101,97,116,101,32,114,101,103,117,108,97,114,32,102,105,108,101,32,66,58,32,69],.str [99,97,110,110,111,116,32,99,114,101,97,116,101,32,115,121,109,98,111,108,105,99,32,108,105,110,107,32,66,58,32,69],.str [99,97,110,110,111,116,32,99,111,112,121,32,97,32,100,105,114,101,99,116,111,114,121,44,32,65,44,32,105,110,116,111,32,105,116,115,101,108,102,44,32,66],.str [110,111,116,32,119,114,105,116,105,110,103,32,116,104,114,111,117,103,104,32,100,97,110,103,108,105,110,103,32,115,121,109,108,105,110,107,32,66],.str [101,114,114,111,114,32,119,114,105,116,105,110,103,32,66,58,32,69],.str [99,97,110,110,111,116,32,99,114,101,97,116,101,32,100,105,114,101,99,116,111,114,121,32,66,58,32,69]]:=rfl
theorem zja:G2 0=some [.str [],.str [],.sc (.int .i64 0),.str [109,107,100,105,114],.str [112],.sc (.int .i64 1),.str [114,109],.str [82,100,102,114],.sc (.int .i64 1),.str [108,110],.str [84,102,110,115],.sc (.int .i64 1),.str [109,118],.str [84,102,110],.sc (.int .i64 2),.str [99,112],.str [80,82,84,102,110,114],.sc (.int .i64 2)]:=rfl
theorem znc:G2 4=some [.str [83,117,99,99,101,115,115],.str [78,111,32,115,117,99,104,32,102,105,108,101,32,111,114,32,100,105,114,101,99,116,111,114,121],.str [70,105,108,101,32,101,120,105,115,116,115],.str [78,111,116,32,97,32,100,105,114,101,99,116,111,114,121],.str [73,115,32,97,32,100,105,114,101,99,116,111,114,121],.str [68,105,114,101,99,116,111,114,121,32,110,111,116,32,101,109,112,116,121],.str [84,111,111,32,109,97,110,121,32,108,101,118,101,108,115,32,111,102,32,115,121,109,98,111,108,105,99,32,108,105,110,107,115],.str [70,105,108,101,32,110,97,109,101,32,116,111,111,32,108,111,110,103],.str [78,111,32,115,112,97,99,101,32,108,101,102,116,32,111,110,32,100,101,118,105,99,101],.str [73,110,118,97,108,105,100,32,97,114,103,117,109,101,110,116],.str [68,101,118,105,99,101,32,111,114,32,114,101,115,111,117,114,99,101,32,98,117,115,121],.str [79,112,101,114,97,116,105,111,110,32,110,111,116,32,112,101,114,109,105,116,116,101,100],.str [77,97,108,102,111,114,109,101,100,32,116,101,120,116],.str [78,111,116,32,105,110,32,116,104,101,32,115,116,97,115,104]]:=rfl
attribute [push_cast] zqR zja znc
def JQ (k:Int):Lz:=if k=1 then [109,107,100,105,114] else if k=2 then [114,109] else if k=3 then [108,110] else if k=4 then [109,118] else if k=5 then [99,112] else []
def jh (k:Int):Lz:=if k=1 then [99,97,110,110,111,116,32,99,114,101,97,116,101,32,100,105,114,101,99,116,111,114,121,32,65,58,32,69] else if k=2 then [99,97,110,110,111,116,32,114,101,109,111,118,101,32,65,58,32,69] else if k=3 then [114,101,102,117,115,105,110,103,32,116,111,32,114,101,109,111,118,101,32,34,46,34,32,111,114,32,34,46,46,34,32,100,105,114,101,99,116,111,114,121,58,32,115,107,105,112,112,105,110,103,32,65] else if k=4 then [105,116,32,105,115,32,100,97,110,103,101,114,111,117,115,32,116,111,32,111,112,101,114,97,116,101,32,114,101,99,117,114,115,105,118,101,108,121,32,111,110,32,65] else if k=5 then [102,97,105,108,101,100,32,116,111,32,97,99,99,101,115,115,32,65,58,32,69] else if k=6 then [65,58,32,104,97,114,100,32,108,105,110,107,32,110,111,116,32,97,108,108,111,119,101,100,32,102,111,114,32,100,105,114,101,99,116,111,114,121] else if k=7 then [102,97,105,108,101,100,32,116,111,32,99,114,101,97,116,101,32,104,97,114,100,32,108,105,110,107,32,66,58,32,69] else if k=8 then [102,97,105,108,101,100,32,116,111,32,99,114,101,97,116,101,32,115,121,109,98,111,108,105,99,32,108,105,110,107,32,66,58,32,69] else if k=9 then [65,32,97,110,100,32,66,32,97,114,101,32,116,104,101,32,115,97,109,101,32,102,105,108,101] else if k=10 then [116,97,114,103,101,116,32,65,32,105,115,32,110,111,116,32,97,32,100,105,114,101,99,116,111,114,121] else if k=11 then [99,97,110,110,111,116,32,115,116,97,116,32,65,58,32,69] else if k=12 then [99,97,110,110,111,116,32,111,118,101,114,119,114,105,116,101,32,110,111,110,45,100,105,114,101,99,116,111,114,121,32,66,32,119,105,116,104,32,100,105,114,101,99,116,111,114,121,32,65] else if k=13 then [99,97,110,110,111,116,32,111,118,101,114,119,114,105,116,101,32,100,105,114,101,99,116,111,114,121,32,66,32,119,105,116,104,32,110,111,110,45,100,105,114,101,99,116,111,114,121,32,65] else if k=14 then [99,97,110,110,111,116,32,109,111,118,101,32,65,32,116,111,32,97,32,115,117,98,100,105,114,101,99,116,111,114,121,32,111,102,32,105,116,115,101,108,102,44,32,66] else if k=15 then [99,97,110,110,111,116,32,109,111,118,101,32,65,32,116,111,32,66,58,32,69] else if k=16 then [45,114,32,110,111,116,32,115,112,101,99,105,102,105,101,100,59,32,111,109,105,116,116,105,110,103,32,100,105,114,101,99,116,111,114,121,32,65] else if k=17 then [99,97,110,110,111,116,32,99,114,101,97,116,101,32,114,101,103,117,108,97,114,32,102,105,108,101,32,66,58,32,69] else if k=18 then [99,97,110,110,111,116,32,99,114,101,97,116,101,32,115,121,109,98,111,108,105,99,32,108,105,110,107,32,66,58,32,69] else if k=19 then [99,97,110,110,111,116,32,99,111,112,121,32,97,32,100,105,114,101,99,116,111,114,121,44,32,65,44,32,105,110,116,111,32,105,116,115,101,108,102,44,32,66] else if k=20 then [110,111,116,32,119,114,105,116,105,110,103,32,116,104,114,111,117,103,104,32,100,97,110,103,108,105,110,103,32,115,121,109,108,105,110,107,32,66] else if k=21 then [101,114,114,111,114,32,119,114,105,116,105,110,103,32,66,58,32,69] else if k=22 then [99,97,110,110,111,116,32,99,114,101,97,116,101,32,100,105,114,101,99,116,111,114,121,32,66,58,32,69] else []
def ub (k:Int):Lz:=if k=0 then [83,117,99,99,101,115,115] else if k=1 then [78,111,32,115,117,99,104,32,102,105,108,101,32,111,114,32,100,105,114,101,99,116,111,114,121] else if k=2 then [70,105,108,101,32,101,120,105,115,116,115] else if k=3 then [78,111,116,32,97,32,100,105,114,101,99,116,111,114,121] else if k=4 then [73,115,32,97,32,100,105,114,101,99,116,111,114,121] else if k=5 then [68,105,114,101,99,116,111,114,121,32,110,111,116,32,101,109,112,116,121] else if k=6 then [84,111,111,32,109,97,110,121,32,108,101,118,101,108,115,32,111,102,32,115,121,109,98,111,108,105,99,32,108,105,110,107,115] else if k=7 then [70,105,108,101,32,110,97,109,101,32,116,111,111,32,108,111,110,103] else if k=8 then [78,111,32,115,112,97,99,101,32,108,101,102,116,32,111,110,32,100,101,118,105,99,101] else if k=9 then [73,110,118,97,108,105,100,32,97,114,103,117,109,101,110,116] else if k=10 then [68,101,118,105,99,101,32,111,114,32,114,101,115,111,117,114,99,101,32,98,117,115,121] else if k=11 then [79,112,101,114,97,116,105,111,110,32,110,111,116,32,112,101,114,109,105,116,116,101,100] else if k=12 then [77,97,108,102,111,114,109,101,100,32,116,101,120,116] else if k=13 then [78,111,116,32,105,110,32,116,104,101,32,115,116,97,115,104] else [85,110,107,110,111,119,110,32,101,114,114,111,114]
theorem yA (k:Int):Fun Tryz.prog G2 125 [.sc (.int .i64 k)] (.str (JQ k)) 0:=by
 by_cases h1:1<=k
 ·by_cases h2:k<=5
  ·have hc:k=1∨k=2∨k=3∨k=4∨k=5:=by omega
   clear h1 h2;rcases hc with rfl | rfl | rfl | rfl | rfl
   all_goals
    refine fon Tryz.func125 ?_;dsimp only[Tryz.f125];push_cast;exact ⟨[],rfl,rfl,by simp only[JQ];push_cast [ze,zd,CLe,zf]<;>rfl⟩
  ·have n1:¬k=1:=(by omega);have n2:¬k=2:=(by omega);have n3:¬k=3:=(by omega);have n4:¬k=4:=(by omega);have n5:¬k=5:=(by omega);have f1:¬k<1:=(by omega);have f2:6<=k:=(by omega);have f3:5<k:=(by omega);refine fon Tryz.func125 ?_;dsimp only[Tryz.f125];push_cast [f1,f2,f3,n1,n2,n3,n4,n5];exact ⟨[],rfl,rfl,by push_cast [ze,zd,CLe,zf]<;>simp[JQ,n1,n2,n3,n4,n5]⟩
 ·have n1:¬k=1:=(by omega);have n2:¬k=2:=(by omega);have n3:¬k=3:=(by omega);have n4:¬k=4:=(by omega);have n5:¬k=5:=(by omega);have f1:k<1:=by omega
  refine fon Tryz.func125 ?_;dsimp only[Tryz.f125];push_cast [f1,n1,n2,n3,n4,n5];exact ⟨[],rfl,rfl,by push_cast [ze,zd,CLe,zf]<;>simp[JQ,n1,n2,n3,n4,n5]⟩
theorem xO (k:Int):Fun Tryz.prog G0 32 [.sc (.int .i64 k)] (.str (JQ k)) 0:=by
 by_cases h1:1<=k
 ·by_cases h2:k<=5
  ·have hc:k=1∨k=2∨k=3∨k=4∨k=5:=by omega
   clear h1 h2;rcases hc with rfl | rfl | rfl | rfl | rfl
   all_goals
    refine fon Tryz.func32 ?_;dsimp only[Tryz.f32];push_cast;exact ⟨[],rfl,rfl,by simp only[JQ];push_cast [ze,zd,CLe,zf]<;>rfl⟩
  ·have n1:¬k=1:=(by omega);have n2:¬k=2:=(by omega);have n3:¬k=3:=(by omega);have n4:¬k=4:=(by omega);have n5:¬k=5:=(by omega);have f1:¬k<1:=(by omega);have f2:6<=k:=(by omega);have f3:5<k:=(by omega);refine fon Tryz.func32 ?_;dsimp only[Tryz.f32];push_cast [f1,f2,f3,n1,n2,n3,n4,n5];exact ⟨[],rfl,rfl,by push_cast [ze,zd,CLe,zf]<;>simp[JQ,n1,n2,n3,n4,n5]⟩
 ·have n1:¬k=1:=(by omega);have n2:¬k=2:=(by omega);have n3:¬k=3:=(by omega);have n4:¬k=4:=(by omega);have n5:¬k=5:=(by omega);have f1:k<1:=by omega
  refine fon Tryz.func32 ?_;dsimp only[Tryz.f32];push_cast [f1,n1,n2,n3,n4,n5];exact ⟨[],rfl,rfl,by push_cast [ze,zd,CLe,zf]<;>simp[JQ,n1,n2,n3,n4,n5]⟩
theorem zdG (k:Int):Fun Tryz.prog G2 126 [.sc (.int .i64 k)] (.str (jh k)) 0:=by
 by_cases h1:0<=k
 ·by_cases h2:k<=22
  ·have hc:k=0∨k=1∨k=2∨k=3∨k=4∨k=5∨k=6∨k=7∨k=8∨k=9∨k=10∨k=11∨k=12∨k=13∨k=14∨k=15∨k=16∨k=17∨k=18∨k=19∨k=20∨k=21∨k=22:=by omega
   clear h1 h2;rcases hc with rfl | rfl | rfl | rfl | rfl | rfl | rfl | rfl | rfl | rfl | rfl | rfl | rfl | rfl | rfl | rfl | rfl | rfl | rfl | rfl | rfl | rfl | rfl
   all_goals
    refine fon Tryz.func126 ?_;dsimp only[Tryz.f126];push_cast;exact ⟨[],rfl,rfl,by simp only[jh];push_cast [ze,zd,CLe,zf]<;>rfl⟩
  ·have n1:¬k=1:=(by omega);have n2:¬k=2:=(by omega);have n3:¬k=3:=(by omega);have n4:¬k=4:=(by omega);have n5:¬k=5:=(by omega);have n6:¬k=6:=(by omega);have n7:¬k=7:=(by omega);have n8:¬k=8:=(by omega);have n9:¬k=9:=(by omega);have n10:¬k=10:=(by omega);have n11:¬k=11:=(by omega);have n12:¬k=12:=(by omega);have n13:¬k=13:=(by omega);have n14:¬k=14:=(by omega);have n15:¬k=15:=(by omega);have n16:¬k=16:=(by omega);have n17:¬k=17:=(by omega);have n18:¬k=18:=(by omega);have n19:¬k=19:=(by omega);have n20:¬k=20:=(by omega);have n21:¬k=21:=(by omega);have n22:¬k=22:=(by omega);have f1:¬k<0:=(by omega);have f2:23<=k:=(by omega);have f3:22<k:=(by omega);refine fon Tryz.func126 ?_;dsimp only[Tryz.f126];push_cast [f1,f2,f3,n1,n2,n3,n4,n5,n6,n7,n8,n9,n10,n11,n12,n13,n14,n15,n16,n17,n18,n19,n20,n21,n22];exact ⟨[],rfl,rfl,by push_cast [ze,zd,CLe,zf]<;>simp[jh,n1,n2,n3,n4,n5,n6,n7,n8,n9,n10,n11,n12,n13,n14,n15,n16,n17,n18,n19,n20,n21,n22]⟩
 ·have n1:¬k=1:=(by omega);have n2:¬k=2:=(by omega);have n3:¬k=3:=(by omega);have n4:¬k=4:=(by omega);have n5:¬k=5:=(by omega);have n6:¬k=6:=(by omega);have n7:¬k=7:=(by omega);have n8:¬k=8:=(by omega);have n9:¬k=9:=(by omega);have n10:¬k=10:=(by omega);have n11:¬k=11:=(by omega);have n12:¬k=12:=(by omega);have n13:¬k=13:=(by omega);have n14:¬k=14:=(by omega);have n15:¬k=15:=(by omega);have n16:¬k=16:=(by omega);have n17:¬k=17:=(by omega);have n18:¬k=18:=(by omega);have n19:¬k=19:=(by omega);have n20:¬k=20:=(by omega);have n21:¬k=21:=(by omega);have n22:¬k=22:=(by omega);have f1:k<0:=by omega
  refine fon Tryz.func126 ?_;dsimp only[Tryz.f126];push_cast [f1,n1,n2,n3,n4,n5,n6,n7,n8,n9,n10,n11,n12,n13,n14,n15,n16,n17,n18,n19,n20,n21,n22];exact ⟨[],rfl,rfl,by push_cast [ze,zd,CLe,zf]<;>simp[jh,n1,n2,n3,n4,n5,n6,n7,n8,n9,n10,n11,n12,n13,n14,n15,n16,n17,n18,n19,n20,n21,n22]⟩
theorem vP (k:Int):Fun Tryz.prog G2 172 [.sc (.int .i64 k)] (.str (ub k)) 0:=by
 by_cases h1:0<=k
 ·by_cases h2:k<=13
  ·have hc:k=0∨k=1∨k=2∨k=3∨k=4∨k=5∨k=6∨k=7∨k=8∨k=9∨k=10∨k=11∨k=12∨k=13:=by omega
   clear h1 h2;rcases hc with rfl | rfl | rfl | rfl | rfl | rfl | rfl | rfl | rfl | rfl | rfl | rfl | rfl | rfl
   all_goals
    refine fon Tryz.func172 ?_;dsimp only[Tryz.f172];push_cast;exact ⟨[],rfl,rfl,by simp only[ub];push_cast [ze,zd,CLe,zf]<;>rfl⟩
  ·have n0:¬k=0:=(by omega);have n1:¬k=1:=(by omega);have n2:¬k=2:=(by omega);have n3:¬k=3:=(by omega);have n4:¬k=4:=(by omega);have n5:¬k=5:=(by omega);have n6:¬k=6:=(by omega);have n7:¬k=7:=(by omega);have n8:¬k=8:=(by omega);have n9:¬k=9:=(by omega);have n10:¬k=10:=(by omega);have n11:¬k=11:=(by omega);have n12:¬k=12:=(by omega);have n13:¬k=13:=(by omega);have f1:¬k<0:=(by omega);have f2:14<=k:=(by omega);have f3:13<k:=(by omega);refine fon Tryz.func172 ?_;dsimp only[Tryz.f172];push_cast [f1,f2,f3,n0,n1,n2,n3,n4,n5,n6,n7,n8,n9,n10,n11,n12,n13];exact ⟨[],rfl,rfl,by push_cast [ze,zd,CLe,zf]<;>simp[ub,n0,n1,n2,n3,n4,n5,n6,n7,n8,n9,n10,n11,n12,n13]⟩
 ·have n0:¬k=0:=(by omega);have n1:¬k=1:=(by omega);have n2:¬k=2:=(by omega);have n3:¬k=3:=(by omega);have n4:¬k=4:=(by omega);have n5:¬k=5:=(by omega);have n6:¬k=6:=(by omega);have n7:¬k=7:=(by omega);have n8:¬k=8:=(by omega);have n9:¬k=9:=(by omega);have n10:¬k=10:=(by omega);have n11:¬k=11:=(by omega);have n12:¬k=12:=(by omega);have n13:¬k=13:=(by omega);have f1:k<0:=by omega
  refine fon Tryz.func172 ?_;dsimp only[Tryz.f172];push_cast [f1,n0,n1,n2,n3,n4,n5,n6,n7,n8,n9,n10,n11,n12,n13];exact ⟨[],rfl,rfl,by push_cast [ze,zd,CLe,zf]<;>simp[ub,n0,n1,n2,n3,n4,n5,n6,n7,n8,n9,n10,n11,n12,n13]⟩
open QuotePlain in
theorem yq (l:Lz) (hl:l.length<=1000000):Fun Tryz.prog G0 171 [.str l] (.str (qG l)) 0:=by
 refine Fun.wrap (by kernel_rfl) fun R vs h=>?_;obtain ⟨v1,us1,rfl,h1,h⟩:=zh.1 h;rw[zl]at h;subst h;rw[zY]at h1;subst h1;refine (QuoteWalk.quote_walk ⟨l.toArray⟩ R.w (by simp[ByteArray.size];omega)).mono ?_;rintro e w' ⟨rfl,hb⟩;exact ⟨_,rfl,hb,fun R' _=>zY.2 (by simp[Kit.ofL,Kit.toL])⟩
open QuotePlain in
theorem QF (l:Lz) (hl:l.length<=1000000):Fun Tryz.prog G0 67 [.str l] (.str (qG l)) 0:=by
 refine Fun.wrap (by kernel_rfl) fun R vs h=>?_;obtain ⟨v1,us1,rfl,h1,h⟩:=zh.1 h;rw[zl]at h;subst h;rw[zY]at h1;subst h1;refine (QuoteWalk.refQuote_walk ⟨l.toArray⟩ R.w (by simp[ByteArray.size];omega)).mono ?_;rintro e w' ⟨rfl,hb⟩;exact ⟨_,rfl,hb,fun R' _=>zY.2 (by simp[Kit.ofL,Kit.toL])⟩
end
section
open Go.RowKit
theorem Fun.res {P:Program} {G:zp} {f:FuncId} {r r':C} {n:Nat} (h:Fun P G f args r n) (e:r=r'):Fun P G f args r' n:=e▸h
theorem yc.glob0 {P:Program} {G':zp} {f:FuncId} {bx bx':List (List C)} {q:Nat} {r:C} {n:Nat} (h:yc P G0 f args bx q r bx' n):yc P G' f args bx q r bx' n:=
 ⟨h.1,fun R L vs hg=>h.2 R L vs fun g cs e=>by cases e⟩
theorem yD.glob0 {P:Program} {G':zp} {f:FuncId} {first cap:List C} {bx items:List (List C)} (h:yD P G0 f first cap bx items):yD P G' f first cap bx items:=
 ⟨h.1,fun l st J R L us vs hg=>h.2 l st J R L us vs fun g cs e=>by cases e⟩
def Zs (c:UInt8):Lz->List Lz
 | []=>[[]]
 | b :: l=>if b=c then [] :: Zs c l else match Zs c l with
  | []=>[[b]]
  | x :: r=>(b :: x) :: r
theorem U4 (c:UInt8):∀ l:Lz,Lib.indexByte l c<0->Zs c l = [l]
 | [],_=>rfl
 | b :: l,h=>by
  unfold Lib.indexByte at h;by_cases hb:b=c
  ·subst hb;simp at h
  ·have hb':(b==c)=false:=by simpa using hb
   rw[hb']at h;simp only[WN,W2]at h;have hl:Lib.indexByte l c<0:=by
    split at h
    ·rename_i g;have:=Oj.1 g;omega
    ·omega
   unfold Zs;rw[if_neg hb,U4 c l hl]
theorem UZ (c:UInt8):∀ l:Lz,-1<=Lib.indexByte l c
 | []=>Ao _
 | b :: l=>by
  have:=UZ c l;unfold Lib.indexByte;split
  ·decide
  ·split
   ·decide
   ·omega
theorem xx (c:UInt8):∀ (l:Lz) (i:Nat),Lib.indexByte l c=(i:Int)->i<l.length/\Zs c l=l.take i :: Zs c (l.drop (i+1))
 | [],i,h=>by
  have h:(-1:Int)=(i:Int):=h;omega
 | b :: l,i,h=>by
  unfold Lib.indexByte at h;by_cases hb:b=c
  ·subst hb;simp at h;obtain rfl:i=0:=by omega
   refine ⟨by simp,?_⟩
   conv=>lhs;unfold Zs
   simp
  ·have hb':(b==c)=false:=by simpa using hb
   rw[hb']at h;simp only[WN,W2]at h;split at h
   ·omega
   ·rename_i g;have g':Lib.indexByte l c≠-1:=by simpa using g
    have hg:=UZ c l;obtain ⟨j,rfl⟩:∃ j,i=j+1:=⟨i-1,by omega⟩;have hj:Lib.indexByte l c=(j:Int):=by omega
    obtain ⟨h1,h2⟩:=xx c l j hj;refine ⟨by simp;omega,?_⟩
    conv=>lhs;unfold Zs
    rw[if_neg hb,h2];simp
theorem y9 (c:UInt8) (l:Lz):(Zs c l).length<=l.length+1:=by
 induction l with
 | nil=>simp[Zs]
 | cons b l ih =>
  unfold Zs;split
  ·simp;omega
  ·split
   ·simp
   ·rename_i x r h;rw[h]at ih;simp at ih ⊢;omega
theorem zcV (c:UInt8) (l:Lz):Fun Tryz.prog G0 177 [.str l,.str [c]] (.sc (.int .i64 (Lib.indexByte l c))) 0:=by
 refine Fun.wrap (by kernel_rfl) fun R vs h=>?_;obtain ⟨v1,us1,rfl,h1,h⟩:=zh.1 h;obtain ⟨v2,us2,rfl,h2,h⟩:=zh.1 h;rw[zl]at h;subst h;rw[zY]at h1 h2;subst h1 h2;refine (Tryz.strings_Index_one ⟨l.toArray⟩ c R.w).mono ?_;rintro e w' ⟨rfl,rfl⟩;exact ⟨_,rfl,W3 _ _,fun R' _=>zq.2 (by simp)⟩
theorem xd (c:UInt8) (s:Lz) (hs:s.length<=1000000):yD Tryz.prog G0 208 [] [.ptr 1 0,.ptr 0 0,.ptr 2 0] [[.str s],[.str [c]],[.sc (.int .i64 0)]] (zF (Zs c s)):=by
 refine foI (fun _=>[]) Tryz.func208 ?_;dsimp only[Tryz.f208];intro l sf;push_cast;refine loop (fun x:Lz×Nat=>⟨[(0,.sc (.func (.yield l) #[] #[])),(1,.ptr 1 0),(2,.ptr 0 0),(3,.ptr 2 0)],[[.str x.1],[.str [c]],[.sc (.int .i64 0)]],0,x.2⟩)
  (fun x=>x.1.length<=1000000/\(∃ done,Zs c s=done++Zs c x.1/\done.length=x.2)/\∀ j,j<x.2->sf j=false) (fun x=>x.1.length) (s,0) ⟨hs,⟨[],rfl,rfl⟩,fun j hj=>by omega⟩ ?_ ?_
 ·refine JM.mk [] rfl rfl (Wc _) rfl ?_ ?_<;>push_cast [ze,zd,CLe,zf]<;>omega
 ·rintro ⟨r,k⟩ hx;simp only at hx ⊢;have hr:=hx.1;have hsf:=hx.2.2;obtain ⟨done,hd,hdl⟩:=hx.2.1;clear hx;push_cast;refine call (zcV c r) ?_;push_cast;by_cases hi:Lib.indexByte r c<0
  ·push_cast [hi];have hk:(zF (Zs c s))[k]?=some [.str r]:=by
    rw[hd,U4 c r hi];simp[←hdl]
   rw[hk];push_cast;refine ⟨by push_cast [ze,zd,CLe,zf],hsf,?_⟩;cases hk2:sf k with
   | true=>exact .inr ⟨A4 k,hk2⟩
   | false =>
    refine .inl ⟨?_,fun j (hj:j<k+1)=>?_⟩
    ·rw[hd,U4 c r hi];simp[hdl]
    ·rcases Wr j k with g | g
     ·exact hsf j g
     ·rw[show j=k by omega];exact hk2
  ·have hg:=UZ c r;obtain ⟨i,hii⟩:∃ i:Nat,Lib.indexByte r c=(i:Int):=⟨(Lib.indexByte r c).toNat,by omega⟩;obtain ⟨hir,hsp⟩:=xx c r i hii;have hk:(zF (Zs c s))[k]?=some [.str (r.take i)]:=by
    rw[hd,hsp];simp[←hdl]
   rw[hii]at hi ⊢;push_cast [hi];rw[hk];push_cast;refine ⟨by omega,by omega,by push_cast [ze,zd,CLe,zf],hsf,br (fun hk2=>?_) (fun hk2=>?_)⟩
   ·push_cast;exact .inr ⟨A4 k,hk2⟩
   ·push_cast;refine ⟨by omega,by omega,(r.drop (i+1),k+1),⟨by simp;omega,⟨done++[r.take i],by rw[hd,hsp];simp,by simp[hdl]⟩,fun j (hj:j<k+1)=>?_⟩,by simp;omega,JM.mk [] rfl rfl (Wc _) rfl ?_ ?_⟩
    ·rcases Wr j k with g | g
     ·exact hsf j g
     ·rw[show j=k by omega];exact hk2
    ·push_cast [ze,zd,CLe,zf]
    ·push_cast [ze,zd,CLe,zf]
theorem Ng (c:UInt8) (s:Lz):yc Tryz.prog G0 169 [.str s,.str [c],.sc (.int .i64 0)] [] 0 (.clo (.func 208) [] [.ptr 1 0,.ptr 0 0,.ptr 2 0]) [[.str s],[.str [c]],[.sc (.int .i64 0)]] 0:=by
 refine foB (fun _=>[]) Tryz.func169 ?_;dsimp only[Tryz.f169];push_cast;exact ⟨[],rfl,rfl,by push_cast [ze,zd,CLe,zf],by push_cast [ze,zd,CLe,zf]⟩
theorem N2 (c:UInt8) (s:Lz):yc Tryz.prog G0 127 [.str s,.str [c]] [] 0 (.clo (.func 208) [] [.ptr 1 0,.ptr 0 0,.ptr 2 0]) [[.str s],[.str [c]],[.sc (.int .i64 0)]] 0:=by
 refine foB (fun _=>[]) Tryz.func127 ?_;dsimp only[Tryz.f127];push_cast;refine Xp [] [] (Ng c s) rfl (by simp) (by simp) (fun i hi=>by cases hi) (by push_cast) rfl ?_;push_cast;exact ⟨[],rfl,rfl,by push_cast [ze,zd,CLe,zf],by push_cast [ze,zd,CLe,zf]⟩
end
section
open CA CB
open Go.RowKit QuotePlain
def Xx (l:Lz):Lz:=Lib.trimRightS l [58,44]
theorem zfn (l:Lz):(Xx l).length<=l.length:=by
 unfold Xx Lib.trimRightS;rw[List.length_reverse];have:=(List.dropWhile_sublist (([58,44]:Lz).contains ·) (l:=l.reverse)).length_le;rw[List.length_reverse]at this;exact this
theorem zkJ (l:Lz) (h0:l≠[]) (hl:l.length<=1000000):Fun Tryz.prog G0 170 [.str l,.str [58,44]] (.str (Xx l)) 0:=by
 refine Fun.wrap (by kernel_rfl) fun R vs h=>?_;obtain ⟨v1,us1,rfl,h1,h⟩:=zh.1 h;obtain ⟨v2,us2,rfl,h2,h⟩:=zh.1 h;rw[zl]at h;subst h;rw[zY]at h1 h2;subst h1 h2;have hpos:=WE.2 h0;refine (Any.strings_TrimRight_set Tryz.lays162 GK (by kernel_rfl) ⟨l.toArray⟩ ⟨#[58,44]⟩ R.w (by decide) (by simpa [ByteArray.size] using hpos) (by simp[ByteArray.size];omega) (by decide) (fun j b hb=>?_)).mono ?_
 ·match j,hb with
  | 0,hb=>cases hb;decide
  | 1,hb=>cases hb;decide
  | j+2,hb=>simp at hb
 ·rintro e w' ⟨rfl,rfl⟩;exact ⟨_,rfl,((W3 _ _).alloc (Wb _) _).alloc (by simp) _,fun R' _=>zY.2 (by simp[Xx])⟩
def Z0 (w qa qb m:Lz):Lz:=
 if Xx w = [65] then qa++w.drop (Xx w).length else if Xx w = [66] then qb++w.drop (Xx w).length else if Xx w = [69] then m++w.drop (Xx w).length else w
theorem QN (l:Lz):(qG l).length<=4*l.length+2:=by
 have:=QuoteWalk.mid_len l;simp only[qG,Wg,Wj,Wz];omega
theorem zba (e:Int):(ub e).length<=100:=by
 have key:∀ (c:Prop) [Decidable c] (x y:Lz),x.length<=100->y.length<=100->(if c then x else y).length<=100:=fun c _ x y hx hy=>by
  by_cases h:c
  ·rw[if_pos h];exact hx
  ·rw[if_neg h];exact hy
 unfold ub
 repeat' (first | decide | refine key _ _ _ (by decide) ?_)
theorem zfC (w a b:Lz) (e:Int) (ha:a.length<=3000) (hb:b.length<=3000):(Z0 w (qG a) (qG b) (ub e)).length<=w.length+25000:=by
 have h1:=QN a;have h2:=QN b;have h3:=zba e;unfold Z0
 repeat' split
 all_goals (try simp only[Wj,WZ]);omega
theorem zik (w a b:Lz) (e:Int) (h0:w≠[]) (hw:w.length<=1000) (ha:a.length<=3000) (hb:b.length<=3000):Fun Tryz.prog G2 128 [.str w,.str a,.str b,.sc (.int .i64 e)] (.str (Z0 w (qG a) (qG b) (ub e))) 0:=by
 have h1:=(zkJ w h0 (by omega)).glob0 (G':=G2);have h2:=(yq a (by omega)).glob0 (G':=G2);have h3:=(yq b (by omega)).glob0 (G':=G2);have h4:=vP e;have hl:=zfn w;have l1:=QN a;have l2:=QN b;have l3:=zba e;by_cases hA:Xx w = [65]
 ·refine fon Tryz.func128 ?_;dsimp only[Tryz.f128];push_cast;refine cl h1 ?_;push_cast
  repeat refine an ?_
  push_cast [hA];refine cl h2 ?_;push_cast
  repeat refine an ?_
  exact ⟨[],rfl,rfl,by push_cast [ze,zd,CLe,zf]<;>simp[Z0,hA]⟩
 ·by_cases hB:Xx w = [66]
  ·have hA':¬([66]:Lz) = [65]:=by decide
   refine fon Tryz.func128 ?_;dsimp only[Tryz.f128];push_cast;refine cl h1 ?_;push_cast
   repeat refine an ?_
   push_cast [hB,hA'];refine cl h3 ?_;push_cast
   repeat refine an ?_
   exact ⟨[],rfl,rfl,by push_cast [ze,zd,CLe,zf]<;>simp[Z0,hB]⟩
  ·by_cases hE:Xx w = [69]
   ·have hA':¬([69]:Lz) = [65]:=by decide
    have hB':¬([69]:Lz) = [66]:=by decide
    refine fon Tryz.func128 ?_;dsimp only[Tryz.f128];push_cast;refine cl h1 ?_;push_cast
    repeat refine an ?_
    push_cast [hE,hA',hB'];refine cl h4 ?_;push_cast
    repeat refine an ?_
    exact ⟨[],rfl,rfl,by push_cast [ze,zd,CLe,zf]<;>simp[Z0,hE]⟩
   ·refine fon Tryz.func128 ?_;dsimp only[Tryz.f128];push_cast;refine cl h1 ?_;push_cast
    repeat refine an ?_
    push_cast [hA,hB,hE];exact ⟨[],rfl,rfl,by push_cast [ze,zd,CLe,zf]<;>simp[Z0,hA,hB,hE]⟩
theorem ziN (xs:List Lz) (hx:xs.length<=1000001) (hl:(Lib.join xs [58,32]).length<=100000000):Fun Tryz.prog G0 129 [.sl 1 (zF xs)] (.str (Lib.join xs [58,32])) 0:=by
 refine fon Tryz.func129 ?_;dsimp only[Tryz.f129];push_cast;refine cl (NG xs [58,32] hx hl) ?_;push_cast;exact dn
end
section
open CA CB
open Go.RowKit QuotePlain
abbrev Atm:=Nat ⊕ UInt8
def zsw (w:Lz):List Atm:=
 if Xx w = [65] then .inl 0 :: (w.drop (Xx w).length).map .inr else if Xx w = [66] then .inl 1 :: (w.drop (Xx w).length).map .inr else if Xx w = [69] then .inl 2 :: (w.drop (Xx w).length).map .inr else w.map .inr
def vA (qa qb m:Lz):Atm->Lz
 | .inl 0=>qa
 | .inl 1=>qb
 | .inl _=>m
 | .inr b=>[b]
def flA (qa qb m:Lz):List Atm->Lz
 | []=>[]
 | [a]=>vA qa qb m a
 | a :: b :: r=>vA qa qb m a++flA qa qb m (b :: r)
theorem XO (qa qb m:Lz):∀ l:List Atm,flA qa qb m l=l.flatMap (vA qa qb m)
 | []=>rfl
 | [a]=>by simp[flA]
 | a :: b :: r=>by rw[flA,XO qa qb m (b :: r)];rfl
def zfN (k:Int):List Atm:=List.intercalate [.inr 32] ((Zs 32 (jh k)).map zsw)
def zrA (k:Int) (qa qb m:Lz):Lz:=flA qa qb m (zfN k)
theorem zjZ (qa qb m l:Lz):flA qa qb m (l.map .inr)=l:=by
 rw[XO]
 induction l with
 | nil=>rfl
 | cons b r ih=>exact WA (b :: ·) ih
theorem Nl (qa qb m:Lz) (a:Atm) (l:List Atm):flA qa qb m (a :: l)=vA qa qb m a++flA qa qb m l:=by rw[XO,XO];rfl
theorem zir (w qa qb m:Lz):Z0 w qa qb m=flA qa qb m (zsw w):=by
 have h:=fun l=>zjZ qa qb m l;unfold Z0 zsw;split
 ·rw[Nl,h];rfl
 ·split
  ·rw[Nl,h];rfl
  ·split
   ·rw[Nl,h];rfl
   ·rw[h]
theorem zhB (qa qb m:Lz) (a b:List Atm):flA qa qb m (a++b)=flA qa qb m a++flA qa qb m b:=by rw[XO,XO,XO];exact Bl
theorem zaK (qa qb m:Lz):∀ ws:List (List Atm),flA qa qb m (List.intercalate [.inr 32] ws)=List.intercalate [32] (ws.map (flA qa qb m))
 | []=>rfl
 | [w]=>by simp[List.intercalate,List.intersperse]
 | w :: v :: r=>by
  have ih:=zaK qa qb m (v :: r);have e1:List.intercalate [(.inr 32:Atm)] (w :: v :: r)=w++([.inr 32]++List.intercalate [.inr 32] (v :: r)):=by simp[List.intercalate,List.intersperse]
  have e2:List.intercalate [(32:UInt8)] ((w :: v :: r).map (flA qa qb m))=flA qa qb m w++([32]++List.intercalate [32] ((v :: r).map (flA qa qb m))):=by simp[List.intercalate,List.intersperse]
  rw[e1,e2,zhB,zhB,ih]
  rfl
theorem zio (k:Int) (qa qb m:Lz):Lib.join ((Zs 32 (jh k)).map fun w=>Z0 w qa qb m) [32]=zrA k qa qb m:=by
 unfold zrA zfN;rw[zaK,List.map_map];show List.intercalate [32] _=_;congr 1;exact A8 fun w _=>zir w qa qb m
theorem uM (k:Int) (h:¬(1<=k/\k<=22)):jh k = []:=by
 have n1:¬k=1:=by omega
 have n2:¬k=2:=by omega
 have n3:¬k=3:=by omega
 have n4:¬k=4:=by omega
 have n5:¬k=5:=by omega
 have n6:¬k=6:=by omega
 have n7:¬k=7:=by omega
 have n8:¬k=8:=by omega
 have n9:¬k=9:=by omega
 have n10:¬k=10:=by omega
 have n11:¬k=11:=by omega
 have n12:¬k=12:=by omega
 have n13:¬k=13:=by omega
 have n14:¬k=14:=by omega
 have n15:¬k=15:=by omega
 have n16:¬k=16:=by omega
 have n17:¬k=17:=by omega
 have n18:¬k=18:=by omega
 have n19:¬k=19:=by omega
 have n20:¬k=20:=by omega
 have n21:¬k=21:=by omega
 have n22:¬k=22:=by omega
 simp only[jh,n1,n2,n3,n4,n5,n6,n7,n8,n9,n10,n11,n12,n13,n14,n15,n16,n17,n18,n19,n20,n21,n22,W2]
theorem Mv (k:Int):jh k = []∨((∀ x∈Zs 32 (jh k),x≠[]/\x.length<=100)/\(jh k).length<=100):=by
 by_cases h:1<=k/\k<=22
 ·refine .inr ?_;have hc:k=1∨k=2∨k=3∨k=4∨k=5∨k=6∨k=7∨k=8∨k=9∨k=10∨k=11∨k=12∨k=13∨k=14∨k=15∨k=16∨k=17∨k=18∨k=19∨k=20∨k=21∨k=22:=by omega
  clear h;rcases hc with rfl | rfl | rfl | rfl | rfl | rfl | rfl | rfl | rfl | rfl | rfl | rfl | rfl | rfl | rfl | rfl | rfl | rfl | rfl | rfl | rfl | rfl<;>exact ⟨by decide +kernel,by decide +kernel⟩
 ·exact .inl (uM k h)
theorem xY (f:Lz->Lz) (n:Nat):∀ xs:List Lz,(∀ x∈xs,(f x).length<=n)->((xs.map f).map fun x=>x.length+1).sum<=xs.length*(n+1)
 | [],_=>by simp
 | x :: r,h=>by
  have ih:=xY f n r fun y hy=>h y (Wl _ hy);have:=h x Wk;simp only[Wm,OX,Wg,Oq];omega
theorem zbT (xs:List Lz) (sep:Lz) (n:Nat) (hs:sep.length<=1) (h:(xs.map fun x=>x.length+1).sum<=n):(Lib.join xs sep).length<=n:=by
 have key:∀ xs:List Lz,(Lib.join xs sep).length<=(xs.map fun x=>x.length+1).sum:=by
  intro xs
  match xs with
  | []=>simp[Lib.join]
  | [x]=>simp[Lib.join_one]
  | x :: y :: r =>
   have ih:∀ (zs:List Lz) (z:Lz),(Lib.join (z :: zs) sep).length<=((z :: zs).map fun x=>x.length+1).sum:=by
    intro zs
    induction zs with
    | nil=>intro z;simp[Lib.join_one]
    | cons u t iht =>
     intro z;rw[Ji];have:=iht u;simp only[Wj,Wm,OX]at this ⊢;omega
   exact ih (y :: r) x
 exact WM (key xs) h
def Jf (k w:Int) (a b:Lz) (e:Int):Lz:=
 if JQ k = [] then [] else if jh w = [] then [] else JQ k++[58,32]++zrA w (qG a) (qG b) (ub e)
theorem zgd (k:Int):(JQ k).length<=10:=by
 have key:∀ (c:Prop) [Decidable c] (x y:Lz),x.length<=10->y.length<=10->(if c then x else y).length<=10:=fun c _ x y hx hy=>by
  by_cases h:c
  ·rw[if_pos h];exact hx
  ·rw[if_neg h];exact hy
 unfold JQ
 repeat' (first | decide | refine key _ _ _ (by decide) ?_)
theorem zkz (k w:Int) (a b:Lz) (e:Int) (ha:a.length<=3000) (hb:b.length<=3000):Fun Tryz.prog G2 76 [.sc (.int .i64 k),.sc (.int .i64 w),.str a,.str b,.sc (.int .i64 e)] (.str (Jf k w a b e)) 0:=by
 have h1:=yA k;have h2:=zdG w;have hnl:=zgd k;by_cases hn:JQ k = []
 ·rw[hn]at h1;refine fon Tryz.func76 ?_;dsimp only[Tryz.f76];push_cast;refine cl h1 ?_;push_cast;refine cl h2 ?_;push_cast;exact ⟨[],rfl,rfl,by push_cast [ze,zd,CLe,zf]<;>simp[Jf,hn]⟩
 by_cases hp:jh w = []
 ·rw[hp]at h2;refine fon Tryz.func76 ?_;dsimp only[Tryz.f76];push_cast;refine cl h1 ?_;push_cast;refine cl h2 ?_;push_cast [hn];exact ⟨[],rfl,rfl,by push_cast [ze,zd,CLe,zf]<;>simp[Jf,hn,hp]⟩
 obtain ⟨hws,hpl⟩:(∀ x∈Zs 32 (jh w),x≠[]/\x.length<=100)/\(jh w).length<=100:=(Mv w).resolve_left hp;have hpw:=hp;have hsay:=zio w (qG a) (qG b) (ub e);have hsl:=y9 32 (jh w);have hsum:=xY (fun x=>Z0 x (qG a) (qG b) (ub e)) 25100 (Zs 32 (jh w)) fun x hx=>by
  have:=zfC x a b e ha hb;have:=(hws x hx).2;omega
 have hjl:=zbT ((Zs 32 (jh w)).map fun x=>Z0 x (qG a) (qG b) (ub e)) [32] 3000000 (by decide) (by
  have:(Zs 32 (jh w)).length*(25100+1)<=101*25101:=WS _ (by omega);omega)
 have hit:=xd 32 (jh w) (by omega);generalize jh w=P at h2 hp hws hpl hsay hsl hsum hjl hit;rw[hsay]at hjl;refine fof (fun i=>if i=7 then [false,false,false,false,false,false,false,true,true] else []) Tryz.func76 ?_;dsimp only[Tryz.f76];push_cast;refine cl h1 ?_;push_cast;refine cl h2 ?_;push_cast [hn,hp];refine Xp [] [] ((N2 32 P).glob0) rfl (by simp) (by simp) (fun i hi=>by cases hi) (by push_cast) rfl ?_;push_cast;refine range (zF (Zs 32 P)) (fun _=>false) 4 (fun j=>⟨[],[[.str a],[.str b],[.sc (.int .i64 e)],[.own 0 9 1 (zF (((Zs 32 P).take j).map fun x=>Z0 x (qG a) (qG b) (ub e)))]],1,0⟩) hit.glob0 (by push_cast) (by push_cast) (by push_cast) (Wc _) (by push_cast) (fun it h=>?_) (fun j _=>rfl) ?_ (fun j it hj hsf=>?_) (fun hsf=>?_)
 ·obtain ⟨x,_,rfl⟩:=WR.1 h;rfl
 ·exact wks [.inr (9,1)]
 ·obtain ⟨x,hx,rfl⟩:=QM hj;have hjl2:j<(Zs 32 P).length:=(Wd.1 hx).1;have hxw:=hws x (Wf hx);have hs1:=zik x a b e hxw.1 (by omega) ha hb;push_cast;refine cl hs1 ?_;push_cast
  repeat refine an ?_
  refine JM.mk [.inl 0] rfl rfl (Wb _) rfl (by push_cast [ze,zd,CLe,zf]) ?_;push_cast [ze,zd,CLe,zf];rw[W1,hx];simp
 ·have htk:(Zs 32 P).take (Zs 32 P).length=Zs 32 P:=Of;have j1:=((NG ((Zs 32 P).map fun x=>Z0 x (qG a) (qG b) (ub e)) [32] (by rw[We];omega) (by rw[hsay];omega)).res (WA C.str hsay)).glob0 (G':=G2);have j2:=((ziN [JQ k,zrA w (qG a) (qG b) (ub e)] (by simp) (by rw[Ji,Lib.join_one];simp only[Wj,Wg,Wz];omega)).res (WA C.str (show _=Jf k w a b e by rw[Ji,Lib.join_one,Jf,if_neg hn,if_neg hpw]))).glob0 (G':=G2);push_cast [htk];refine cl j1 ?_;push_cast;refine cl j2 ?_;push_cast;exact dn
end
section
open CA CB
open Go.RowKit QuotePlain
end
section
open CA CB
open Go.RowKit
def GD:zp:=fun g=>if g=2 then G1 g else G2 g
theorem ztT (g:Nat) (cs:List C) (h:G1 g=some cs):GD g=some cs:=by
 unfold GD;by_cases hg:g=2
 ·rw[if_pos hg];exact h
 ·unfold G1 at h;rw[if_neg hg]at h;cases h
theorem ztx (g:Nat) (cs:List C) (h:G2 g=some cs):GD g=some cs:=by
 unfold GD;by_cases hg:g=2
 ·subst hg;have q:G2 2=none:=rfl;rw[q]at h;cases h
 ·rw[if_neg hg];exact h
theorem Fun.gd1 {f:FuncId} {r:C} {n:Nat} (h:Fun Tryz.prog G1 f args r n):Fun Tryz.prog GD f args r n:=h.glob ztT
theorem Fun.gd2 {f:FuncId} {r:C} {n:Nat} (h:Fun Tryz.prog G2 f args r n):Fun Tryz.prog GD f args r n:=h.glob ztx
abbrev zs7 (d:qn) (ops diags:C):C:=.agg [.sc (.int .i64 d.w.fs.maxI),.sc (.int .i64 d.w.fs.maxB),.sc (.int .i64 d.w.fs.next),.sl 6 (zu d.w.fs.xs),.sl 4 (zL d.w.kept),.sl 6 (zu d.w.pool),ops,diags,.sc (.int .i64 d.status),.sc (.int .i64 d.slot)]
structure za9 (d:qn):Prop where
 wi:Vk d.w
 ws:zg8 d.w
 ops:d.ops.length<=80000
 diags:d.diags.length<=80000
 slot:0<=d.slot/\d.slot<=4000000000000000000
theorem zp5 (o:OpV):opL o = [.sc (.int .i64 o.kind),.sc (.int .i64 o.slot),.str o.a,.str o.b,.str o.d]:=rfl
abbrev GC:List C:=[.any,.any,.any,.any,.any,.any,.any,.any,.any,.any]
def qN (d:qn) (x:Lz):qn:={ d with diags:=d.diags++[x],status:=1 }
theorem znh (d:qn) (hd:d.diags.length<=80000) (k w:Int) (a b:Lz) (e:Int) (ha:a.length<=3000) (hb:b.length<=3000) :
  Y8 Tryz.prog GD 36 [Mp d,.sc (.int .i64 k),.sc (.int .i64 w),.str a,.str b,.sc (.int .i64 e)] [] 0 (fun r bx n=>n=0/\∃ c B,zqe 1 c (zF (qN d (Jf k w a b e)).diags) B/\r=zs7 (qN d (Jf k w a b e)) (.sl 5 (d.ops.map opL)) (.bs 2 0 1 (d.diags.length+1) c)/\bx = [GC,GC,B]):=by
 have ht:=(zkz k w a b e ha hb).gd2;generalize Jf k w a b e=x at ht ⊢;have hsl:(zF d.diags).length=d.diags.length:=We ..;have hc:=yp (G:=GD) (zF d.diags) [[.str x]] (fun r hr=>by obtain ⟨x,_,rfl⟩:=WR.1 hr;rfl) (fun r hr=>by rw[Ob.1 hr];rfl) (fun r hr=>by obtain ⟨x,_,rfl⟩:=WR.1 hr;rfl) (fun r hr=>by rw[Ob.1 hr];rfl) (by omega) (by simp) (by simp);refine foX (fun i=>if i=1 then [false,false,false,false,false,false,false,false,false,false,false,true,false,false,true] else []) Tryz.func36 ?_;dsimp only[Tryz.f36];push_cast;refine cl ht ?_;push_cast;refine j6 [] [] hc rfl (by decide) (by decide) (by simp) (by push_cast) (by push_cast) (fun r bx' m hp=>?_);obtain ⟨rfl,c,B,hB,rfl,rfl⟩:=hp;have hre:∀ fp fo,C.reL fp fo B=B:=fun fp fo=>zD hB.stay;push_cast [hre];have hm:zF (qN d x).diags=zF d.diags++[[.str x]]:=W9;exact ⟨_,[GC,GC,B],0,⟨⟨rfl,c,B,by rw[hm];exact hB,rfl,rfl⟩,Wc _⟩,[],rfl,rfl,by (push_cast [ze,zd,CLe,zf];exact zT hB.stay),by push_cast [ze,zd,CLe,zf,qN,Wj,hsl]⟩
theorem ze1 (d:qn) (hd:d.diags.length<=80000) (k w:Int) (a b:Lz) (e:Int) (ha:a.length<=3000) (hb:b.length<=3000) :
  Fun Tryz.prog GD 36 [Mp d,.sc (.int .i64 k),.sc (.int .i64 w),.str a,.str b,.sc (.int .i64 e)] (zs7 (qN d (Jf k w a b e)) (.sl 5 (d.ops.map opL)) (.own 0 9 1 (zF (qN d (Jf k w a b e)).diags))) 1:=
 (znh d hd k w a b e ha hb).fun (by
  rintro r bx m ⟨rfl,c,B,hB,rfl,rfl⟩;exact ⟨[(2,9,1,zF (qN d (Jf k w a b e)).diags,c)],[.inl 0],hB.ok rfl (by simp[qN]) (fun r hr=>by obtain ⟨x,_,rfl⟩:=WR.1 hr;rfl),rfl,rfl,by push_cast [ze,zd,CLe,zf,We,Wj,qN]⟩)
end
section
open CA CB
open Go.RowKit
end
section
open Go.RowKit
theorem xQ (a b:List OpV) (ha:a.length<=100000):Fun Tryz.prog G0 26 [.sl 5 (zhX a),.sl 5 (zhX b)] (qM (J5 a b)) 0:=by
 by_cases hl:a.length=b.length
 ·refine fon Tryz.func26 ?_;dsimp only[Tryz.f26];push_cast [hl];refine loop (fun k:Nat=>⟨[(0,.sl 5 (zhX a)),(1,.sl 5 (zhX b)),(5,.sc (.int .i64 k))],[],0,0⟩) (fun k=>k<=a.length/\∀ (j:Nat) (h:j<a.length) (h':j<b.length),j<k->znN (a[j]'h) (b[j]'h')=true) (fun k=>a.length-k) 0 ⟨Wc _,fun j _ _ hj=>by omega⟩ ?_ ?_
  ·exact wk (by push_cast [ze,zd,CLe,zf,hl])
  ·intro k hk;have hk1:=hk.1;have hk2:=hk.2;by_cases h:k<a.length
   ·have hga:=ze4 a k h;have hgb:=ze4 b k (by omega);have heq:znN (a[k]'h) (b[k]'(by omega))=znN (a[k]'h) (b[k]'(by omega)):=rfl;simp only[opL]at hga hgb
    conv at heq=>lhs;unfold znN
    cases he:znN (a[k]'h) (b[k]'(by omega)) with
    | true =>
     rw[he]at heq;push_cast [h,hga,hgb,heq]
     repeat refine an ?_
     refine ⟨k+1,⟨by omega,fun j hj hj' hjk=>?_⟩,by omega,wk⟩;rcases Wr j k with g | g
     ·exact hk2 j hj hj' g
     ·have:j=k:=by omega
      subst this;exact he
    | false =>
     rw[he]at heq;push_cast [h,hga,hgb,heq]
     repeat refine an ?_
     refine ⟨[],rfl,rfl,?_⟩;push_cast [ze,zd,CLe,zf];have:¬J5 a b=true:=fun e=>by
      have:=((XM a b).1 e).2 k h (by omega);rw[he]at this;cases this
     simp[this]
   ·push_cast [h];refine ⟨[],rfl,rfl,?_⟩;push_cast [ze,zd,CLe,zf];have:J5 a b=true:=(XM a b).2 ⟨hl,fun j hj hj'=>hk2 j hj hj' (by omega)⟩;simp[this]
 ·refine fon Tryz.func26 ?_;dsimp only[Tryz.f26];push_cast [hl];refine ⟨[],rfl,rfl,?_⟩;push_cast [ze,zd,CLe,zf];have:¬J5 a b=true:=fun e=>hl ((XM a b).1 e).1;simp[this]
end
section
open CA CB
open Go.RowKit
theorem zgB (w:qR) (hk:w.kept.length<=100000) (hs:Qe w.kept):Fun Tryz.prog G0 12 [XX w] (Mp (uN w)) 0:=by
 have h:=UR (G:=G0) w hk hs.1 hs.2;refine fof (fun i=>if i=1 then [false,false,false,false,true] else []) Tryz.func12 ?_;dsimp only[Tryz.f12];push_cast;refine cl h ?_;push_cast;exact dn (by push_cast [ze,zd,CLe,zf,uN])
end
section
open Go.RowKit
structure zt7 where
 path:Lz
 ino:Int
deriving DecidableEq,Inhabited
def Hc (p n:Lz):Lz:=if p = [47] then p++n else p++[47]++n
theorem zeP (p n:Lz):(Hc p n).length<=p.length+1+n.length:=by
 unfold Hc;split<;>simp<;>omega
section
variable {G:zp}
end
end
section
open CA CB
open Go.RowKit
def zoz (xs:List zn):Prop:=xs.length<=3240/\∀ x∈xs,x.data.length<=5000/\x.es.length<=3240/\∀ e∈x.es,e.name.length<=300
abbrev JS:=List (List Lz×zn)
structure zam (f:FsV) (tr:Int->List Lz->JS):Prop where
 has:∀ n ns,zk n f.xs=true->tr n ns=(ns,zg n f.xs) :: (zg n f.xs).es.flatMap fun e=>tr e.ino (ns++[e.name])
 not:∀ n ns,zk n f.xs=false->tr n ns = []
abbrev kj (p:List Lz×zn):List C:=[.str (qS p.1),.agg (YB p.2)]
def zcQ (tr:Int->List Lz->JS) (ns:List Lz) (es:List z6):JS:=es.flatMap fun e=>tr e.ino (ns++[e.name])
def X9 (tr:Int->List Lz->JS) (S:List (List Lz×List z6)):JS:=S.flatMap fun p=>zcQ tr p.1 p.2
abbrev lvC (p:List Lz×List z6):List C:=[.sl 1 (zF p.1),.sl 2 (zQ p.2)]
def HO (S:List (List Lz×List z6)):List C:=(S.reverse.map lvC).flatten
theorem zno (S:List (List Lz×List z6)):(HO S).length=S.length*2:=by
 unfold HO;rw[zK (k:=2) fun r hr=>by obtain ⟨p,_,rfl⟩:=WR.1 hr;rfl];simp
theorem za8 (p:List Lz×List z6) (S:List (List Lz×List z6)):HO (p :: S)=HO S++lvC p:=by
 unfold HO;simp
def VB (p:List Lz×zn):Prop:=p.1.length<=1000000/\(Lib.join p.1 [47]).length<=1000000
structure YZ (f:FsV) (tr:Int->List Lz->JS) (IT:List (List C)) (sf:Nat->Bool) (S:List (List Lz×List z6)) (k cap:Nat):Prop where
 rest:IT.drop k=(X9 tr S).map kj
 bound:∀ p∈X9 tr S,VB p
 le:k<=IT.length
 go:∀ j,j<k->sf j=false
 pos:S.length<=k
 room:S.length<=cap
 roomM:cap<=9223372036854775807
 has:∀ p∈S,p.2.length<=3240/\∀ e∈p.2,zk e.ino f.xs=true
theorem Z5 (S:List (List Lz×List z6)):((HO S).all C.stayB)=true:=Y9 fun r hr=>by
 obtain ⟨p,_,rfl⟩:=WR.1 hr;rfl
theorem YZ.pop {tr:Int->List Lz->JS} {IT:List (List C)} {sf:Nat->Bool} {S:List (List Lz×List z6)} {cap:Nat} (h:YZ f tr IT sf ((ns,[]) :: S) k cap):YZ f tr IT sf S k cap:=by
 have e:X9 tr ((ns,[]) :: S)=X9 tr S:=by simp[X9,zcQ]
 exact ⟨by rw[←e];exact h.rest,fun p hp=>h.bound p (by rw[e];exact hp),h.le,h.go,by have:=h.pos;rw[Wg]at this;omega,by have:=h.room;rw[Wg]at this;omega,h.roomM,fun p hp=>h.has p (Wl _ hp)⟩
theorem YZ.next {tr:Int->List Lz->JS} {IT:List (List C)} {sf:Nat->Bool} {S:List (List Lz×List z6)} {e:z6} {r:List z6} {cap:Nat} (h:YZ f tr IT sf ((ns,e :: r) :: S) k cap) (ht:zam f tr) (hf:zoz f.xs) (h3:YL f) :
  ∃ y,y=zg e.ino f.xs/\y∈f.xs/\IT[k]?=some (kj (ns++[e.name],y))/\VB (ns++[e.name],y)/\(sf k=false->(∀ c,S.length+2<=c->c<=9223372036854775807->YZ f tr IT sf ((ns++[e.name],y.es) :: (ns,r) :: S) (k+1) c)/\(y.es = []->YZ f tr IT sf ((ns,r) :: S) (k+1) cap)):=by
 have hh:zk e.ino f.xs=true:=(h.has (ns,e :: r) Wk).2 e Wk;obtain ⟨hm,hi⟩:=jA hh;have hu:=ht.has e.ino (ns++[e.name]) hh;have hrest:X9 tr ((ns,e :: r) :: S)=(ns++[e.name],zg e.ino f.xs) :: X9 tr ((ns++[e.name],(zg e.ino f.xs).es) :: (ns,r) :: S):=by
  simp only[X9,zcQ,As,hu,Oh,WT]
 refine ⟨_,rfl,hm,?_,h.bound _ (by rw[hrest];exact Wk),fun hs=>?_⟩
 ·have:=h.rest;rw[hrest]at this;have:=WA (·[0]?) this;simpa using this
 ·have hd:IT.drop (k+1)=(X9 tr ((ns++[e.name],(zg e.ino f.xs).es) :: (ns,r) :: S)).map kj:=by
   rw[←AC,h.rest,hrest];rfl
  have hb:∀ p∈X9 tr ((ns++[e.name],(zg e.ino f.xs).es) :: (ns,r) :: S),VB p:=fun p hp=>h.bound p (by rw[hrest];exact Wl _ hp);have hkl:k+1<=IT.length:=by
   rcases Wr k IT.length with g | g
   ·exact g
   ·have:=h.rest;rw[AE g,hrest]at this;cases this
  have hgo:∀ j,j<k+1->sf j=false:=fun j hj=>by
   rcases Wr j k with g | g
   ·exact h.go j g
   ·rw[show j=k by omega];exact hs
  have hp:=h.pos;have hro:=h.room;have hrm:=h.roomM;rw[Wg]at hp hro;have h0:=h.has (ns,e :: r) Wk;have hr0:r.length<=3240/\∀ e'∈r,zk e'.ino f.xs=true:=⟨by have:=h0.1;simp at this;omega,fun e' he=>h0.2 e' (Wl _ he)⟩;refine ⟨fun c h1 h2=>⟨hd,hb,hkl,hgo,by simp;omega,by simp;omega,h2,fun p hp=>?_⟩,fun hne=>?_⟩
  ·rcases WK.1 hp with rfl | hp
   ·exact ⟨(hf.2 _ hm).2.1,fun e' he=>h3 _ hm e' he⟩
   ·rcases WK.1 hp with rfl | hp
    ·exact hr0
    ·exact h.has p (Wl _ hp)
  ·have hz:X9 tr ((ns++[e.name],(zg e.ino f.xs).es) :: (ns,r) :: S)=X9 tr ((ns,r) :: S):=by rw[hne];simp[X9,zcQ]
   rw[hz]at hd hb;exact ⟨hd,hb,hkl,hgo,by simp;omega,by simp;omega,hrm,fun p hp=>by
    rcases WK.1 hp with rfl | hp
    ·exact hr0
    ·exact h.has p (Wl _ hp)⟩
theorem zcy (f:FsV) (ino:Int) (ns:List Lz) (tr:Int->List Lz->JS) (ht:zam f tr) (hf:zoz f.xs) (hR:z8 f.xs) (h3:YL f) (h2:∀ x∈f.xs,x.kind≠2->x.es = []) (hl:(tr ino ns).length<=100000000) (hb:∀ p∈tr ino ns,VB p) :
  yD Tryz.prog G0 222 [] [.row (fsC f),.row [.sc (.int .i64 ino)],.row [.sl 1 (zF ns)]] [] ((tr ino ns).map kj):=by
 have h40:=hf.1;refine foI (fun i=>if i=1000000+252 then [true] else if i=1 then [false,false,false,false,false,false,false,true] else if i=10 then [false,false,false,false,true] else []) Tryz.func222 ?_;dsimp only[Tryz.f222];intro l sf;push_cast;refine cl (jp f ino (by omega) hR) ?_;push_cast;cases hh:zk ino f.xs with
 | false =>
  have hn:=ht.not ino ns hh;push_cast;rw[hn];exact .inl ⟨rfl,fun j hj=>absurd hj (OK _)⟩
 | true =>
  have hn:=ht.has ino ns hh;have q:VB (ns,zg ino f.xs):=hb _ (by rw[hn];exact Wk);have h0:((tr ino ns).map kj)[0]?=some (kj (ns,zg ino f.xs)):=by rw[hn];rfl
  obtain ⟨hm,hino⟩:=jA hh;generalize zg ino f.xs=x at hn h0 hm hino;have hITl:((tr ino ns).map kj).length<=100000000:=by rw[We];exact hl
  generalize hIT:(tr ino ns).map kj=IT at h0 hITl;push_cast;refine cl (Qf ns (by have:=q.1;dsimp only at this;omega) (by have:=q.2;dsimp only at this;omega)) ?_;push_cast [h0];refine ⟨by push_cast [ze,zd,CLe,zf],fun j hj=>absurd hj (OK _),br (fun hs=>?_) (fun hs=>?_)⟩
  ·push_cast;exact .inr ⟨A4 _,hs⟩
  ·push_cast;refine loop (fun p:List (List Lz×List z6)×Nat×Nat=>⟨[(0,.sc (.func (.yield l) #[] #[])),(1,.row (fsC f)),(7,.bs 1 0 2 p.1.length p.2.2)],[[.any,.any,.any,.any,.any,.any],HO p.1++List.replicate ((p.2.2-p.1.length)*2) .any],0,p.2.1⟩) (fun p=>YZ f tr IT sf p.1 p.2.1 p.2.2) (fun p=>2*(IT.length-p.2.1)+p.1.length) ([(ns,x.es)],1,1) ?_ ?_ ?_
   ·have hdr:IT.drop 1=(X9 tr [(ns,x.es)]).map kj:=by
     rw[←hIT,hn];simp[X9,zcQ]
    show YZ f tr IT sf [(ns,x.es)] 1 1;exact ⟨hdr,fun p hp=>hb p (by rw[hn];exact Wl _ (by simpa [X9,zcQ] using hp)),by have:=(Wd.1 h0).1;omega,fun j hj=>by rw[show j=0 by omega];exact hs,Wb _,Wb _,by omega,fun p hp=>by
     rw[Ob]at hp;subst hp;exact ⟨(hf.2 x hm).2.1,fun e he=>h3 x hm e he⟩⟩
   ·have hl1:HO [(ns,x.es)] = [.sl 1 (zF ns),.sl 2 (zQ x.es)]:=rfl;exact wk (h5:=by push_cast [ze,zd,CLe,zf,hl1])
   ·rintro ⟨S,k,cap⟩ hS;dsimp only at hS ⊢;cases S with
    | nil =>
     push_cast;have hr:=hS.rest;have he:IT.length<=k:=by
      rcases Wr k IT.length with g | g
      ·have:=WA List.length hr;simp[X9]at this;omega
      ·exact g
     exact .inl ⟨by have:=hS.le;omega,hS.go⟩
    | cons p S' =>
     obtain ⟨ns1,es1⟩:=p;have hL:=zno S';have hd0:∀ X,(HO S'++X).drop (S'.length*2)=X:=fun X=>List.drop_left' hL;have hd1:∀ X,(HO S'++X).drop (S'.length*2+1)=X.drop 1:=fun X=>by rw[←AC,hd0]
     have hd2:∀ X,(HO S'++X).drop (S'.length*2+2)=X.drop 2:=fun X=>by rw[←AC,hd0]
     have ht0:∀ X,(HO S'++X).take (S'.length*2)=HO S':=fun X=>OJ hL;have ht1:∀ X,(HO S'++X).take (S'.length*2+1)=HO S'++X.take 1:=fun X=>by
      rw[Ax,Wh (by omega),hL];congr 2;omega
     have hpos:((0:Int)<(S'.length:Int)+1)=True:=eq_true (by omega);have hroom:=hS.room;have hroomM:=hS.roomM;rw[Wg]at hroom;have hlc:(((S'.length:Int)+1-1)=(S'.length:Int)):=by omega
     push_cast [za8,hlc,hpos]
     repeat refine an ?_
     generalize hpad:List.replicate ((cap-(S'.length+1))*2) C.any=pad;have hps:(pad.all C.stayB)=true:=by rw[←hpad];simp[OL,C.stayB]
     have hst1:((HO S'++(lvC (ns1,es1)++pad)).all C.stayB)=true:=by rw[O0,Z5,O0,hps];rfl
     have hpl:pad.length=(cap-(S'.length+1))*2:=by rw[←hpad];simp
     refine loop (fun p:List z6×Nat=>⟨[(0,.sc (.func (.yield l) #[] #[])),(1,.row (fsC f)),(7,.bs 1 0 2 (S'.length+1) cap),(8,.ptr 1 (S'.length*2))],[[.any,.any,.any,.any,.any,.any],HO S'++([.sl 1 (zF ns1),.sl 2 (zQ p.1)]++pad)],0,p.2⟩) (fun p=>YZ f tr IT sf ((ns1,p.1) :: S') p.2 cap/\2*(IT.length-p.2)<=2*(IT.length-k)) (fun p=>p.1.length) (es1,k) ⟨hS,Wb _⟩ ?_ ?_
     ·exact JM.mk [] rfl rfl (Wc _) rfl (by push_cast [ze,zd,CLe,zf]) (by push_cast [ze,zd,CLe,zf,WT];exact zT hst1)
     ·rintro ⟨es,k1⟩ ⟨hT,hkk⟩;dsimp only at hT hkk ⊢;cases es with
      | nil =>
       push_cast [hd0,hd1,hd2,ht0,ht1,hlc];refine ⟨by omega,by omega,⟨by omega,by omega⟩,(S',k1,cap),hT.pop,by dsimp only;omega,JM.mk [] rfl rfl (Wc _) rfl (by push_cast [ze,zd,CLe,zf]) ?_⟩;push_cast [ze,zd,CLe,zf];exact zgv (zT (Z5 S')) (XC (by simp[hpl];omega))
      | cons e r =>
       obtain ⟨y,hy,hym,hk1,hbd,hnext⟩:=hT.next ht hf h3;have hrl:((0:Int)<(r.length:Int)+1)=True:=eq_true (by omega);have hlr:(zQ r).length=r.length:=We ..;have hhe:zk e.ino f.xs=true:=(hT.has (ns1,e :: r) Wk).2 e Wk;have hgy:zg e.ino f.xs=y:=hy.symm;have hb1:ns1.length+1<=1000000:=by have:=hbd.1;simpa using this
       have hb2:(Lib.join (ns1++[e.name]) [47]).length<=1000000:=hbd.2;have hst2:(zF ns1).length=ns1.length:=We ..;push_cast [hd0,hd1,hd2,ht0,ht1,hlc,hlr,hrl,hst2,WT,Of]
       repeat refine an ?_
       refine cl (jp f e.ino (by omega) hR) ?_;push_cast [hgy,hhe];refine cl (Qf (ns1++[e.name]) (by simp;omega) (by omega)) ?_;push_cast [hk1];refine ⟨by push_cast [ze,zd,CLe,zf],hT.go,br (fun hs1=>?_) (fun hs1=>?_)⟩
       ·push_cast;exact .inr ⟨A4 _,hs1⟩
       ·obtain ⟨w1,w2⟩:=hnext hs1;by_cases k2:y.kind=2
        ·have hSk:=hT.pos;have hkl:=hT.le;rw[Wg]at hSk;have hc1:(HO S'++C.sl 1 (zF ns1) :: C.sl 2 (List.map N8 r) :: pad).length=cap*2:=by
          rw[Wj,hL,Wg,Wg,hpl];omega
         have hc2:(HO S'++C.sl 1 (zF ns1) :: C.sl 2 (List.map N8 r) :: pad).take ((S'.length+1)*2)=HO S'++[C.sl 1 (zF ns1),C.sl 2 (List.map N8 r)]:=by
          rw[Ax,Wh (by omega),hL,show (S'.length+1)*2-S'.length*2=2 by omega];rfl
         push_cast [k2];refine zsQ (HO S'++[C.sl 1 (zF ns1),C.sl 2 (List.map N8 r)]++[C.sl 1 (zF (ns1++[e.name])),C.sl 2 (zQ y.es)]) rfl rfl (by decide) rfl (by decide) (Wc _) hc1 hroom hroomM (by omega) (by omega) (by rw[hc2];exact zD (by rw[O0,O0,Z5];rfl)) (fun c' g1 g2=>?_);have hw:=w1 c' (by omega) g2;have hwl:=hw.le;push_cast [k2];refine ⟨((ns1++[e.name],y.es) :: (ns1,r) :: S',k1+1,c'),hw,by simp only[Wg];omega,JM.mk [] rfl rfl (Wc _) rfl (by push_cast [ze,zd,CLe,zf]) ?_⟩;push_cast [ze,zd,CLe,zf,za8,WT];exact zT (by rw[O0,Z5];simp[OL,C.stayB])
        ·push_cast [k2];have hz:=w2 (h2 y hym k2);have hle:=hz.le;refine ⟨(r,k1+1),⟨hz,by dsimp only;omega⟩,by dsimp only;simp,JM.mk [] rfl rfl (Wc _) rfl (by push_cast [ze,zd,CLe,zf]) ?_⟩;push_cast [ze,zd,CLe,zf,WT];exact zT (by rw[O0,Z5,AX,AX,hps];rfl)
end
section
open CA CB
open Go.RowKit
structure zd8 (f:FsV) (tr:Int->List Lz->JS):Prop where
 tree:zam f tr
 few:zoz f.xs
 rise:z8 f.xs
 third:YL f
 leaf:∀ x∈f.xs,x.kind≠2->x.es = []
structure vo (tr:Int->List Lz->JS) (ino:Int) (ns:List Lz):Prop where
 len:(tr ino ns).length<=100000000
 bound:∀ p∈tr ino ns,VB p
abbrev zfl (l:JS):List (List C):=l.map kj
theorem zk7 {l:JS} {it:List C} (h:(zfl l)[k]?=some it):∃ p,l[k]?=some p/\it=kj p:=by
 rw[Ws]at h;cases hq:l[k]? with
 | none=>rw[hq]at h;cases h
 | some x=>rw[hq]at h;cases h;exact ⟨x,rfl,rfl⟩
theorem zmb {tr:Int->List Lz->JS} {ino:Int} (hw:zd8 f tr) (hs:vo tr ino ns):yD Tryz.prog G0 222 [] [.row (fsC f),.row [.sc (.int .i64 ino)],.row [.sl 1 (zF ns)]] [] (zfl (tr ino ns)):=
 zcy f ino ns tr hw.tree hw.few hw.rise hw.third hw.leaf hs.len hs.bound
theorem ziJ (f:FsV) (ino:Int) (ns:List Lz):Fun Tryz.prog G0 182 [.agg (fsC f),.sc (.int .i64 ino),.sl 1 (zF ns)] (.clo (.func 222) [] [.row (fsC f),.row [.sc (.int .i64 ino)],.row [.sl 1 (zF ns)]]) 0:=by
 refine fon Tryz.func182 ?_;dsimp only[Tryz.f182];push_cast;exact dn
theorem znp (f:FsV):Fun Tryz.prog G0 158 [.agg (fsC f)] (.clo (.func 222) [] [.row (fsC f),.row [.sc (.int .i64 1)],.row [.sl 1 (zF [])]]) 0:=by
 refine fon Tryz.func158 ?_;dsimp only[Tryz.f158];push_cast;refine call (Fun.less (ziJ f 1 []) (by push_cast [ze,zd,CLe,zf])) ?_;push_cast;exact dn
def Zb (n:Int) (l:JS):List Lz:=(l.filter fun p=>decide (p.2.ino=n)).map fun p=>qS p.1
def kW (n:Int) (l:JS):Option Lz:=(l.find? fun p=>decide (p.2.ino=n)&&decide (p.2.kind=2)).map fun p=>qS p.1
theorem uV (f:FsV) (n:Int) (tr:Int->List Lz->JS) (hw:zd8 f tr) (hs:vo tr 1 []) :
  Fun Tryz.prog G0 108 [.agg (fsC f),.sc (.int .i64 n)] (.tup [.str ((kW n (tr 1 [])).getD []),.sc (.bool (kW n (tr 1 [])).isSome)]) 0:=by
 refine fon Tryz.func108 ?_;dsimp only[Tryz.f108];push_cast;refine cl (znp f) ?_;push_cast;have hl:=hs.len;have hit:=zmb hw hs;generalize tr 1 []=l at hit hl;refine range (zfl l) (fun k=>match l[k]? with | some p=>decide (p.2.ino=n)&&decide (p.2.kind=2) | none=>false) 4 (fun k=>⟨[],[[.any,.any,.any,.any],[.sc (.int .i64 n)],[.any],[.any]],0,0⟩) hit (by push_cast) (by push_cast) (by push_cast) (Wc _) (by push_cast) (fun it h=>?_) (fun k _=>rfl) ?_ (fun k it hk hsf=>?_) (fun hsf=>?_)
 ·obtain ⟨x,_,rfl⟩:=WR.1 h;rfl
 ·exact wk
 ·obtain ⟨x,hx2,rfl⟩:=zk7 hk;have hfirst:(decide (x.2.ino=n)&&decide (x.2.kind=2))=true->kW n l=some (qS x.1):=fun hb=>by
   obtain ⟨hkl,hxe⟩:=Wd.1 hx2;unfold kW;rw[Ba (b:=x) |>.2 ⟨hb,k,hkl,hxe,fun j hj=>?_⟩]
   ·rfl
   ·have:=hsf j hj;rw[Wa (by omega)]at this;simp only[this];rfl
  by_cases c1:x.2.ino=n
  ·by_cases c2:x.2.kind=2
   ·have hd:=hfirst (by simp[c1,c2]);push_cast [c1,c2];refine ⟨by rw[hx2];simp[c1,c2],⟨[],[[.any,.any,.any,.any],[.sc (.int .i64 n)],[.str (qS x.1)],[.sc (.bool true)]],0,0⟩,rfl,wk,?_⟩;push_cast [hd];exact dn (by push_cast [ze,zd,CLe,zf,hd,W5,OQ])
   ·push_cast [c1,c2];refine ⟨by rw[hx2];simp[c2],wk⟩
  ·push_cast [c1];refine ⟨by rw[hx2];simp[c1],wk⟩
 ·have hnone:kW n l=none:=by
   unfold kW;rw[Option.map_eq_none_iff,Bf];intro x hx;obtain ⟨k,hk,rfl⟩:=WF hx;have:=hsf k (by simpa using hk);rw[Wa hk]at this;simpa only[Bool.not_eq_true] using this
  push_cast [hnone];exact dn (by push_cast [ze,zd,CLe,zf,ON,Aw])
end
section
inductive Dep (xs:List zn):Nat->Int->Prop
 | root:Dep xs 0 1
 | step {k:Nat} {n:Int} {e:z6}:Dep xs k n->zk n xs=true->e∈(zg n xs).es->Dep xs (k+1) e.ino
def okM (f:FsV):Prop:=zoz f.xs/\Jx f=0
theorem okV.m (h:okV f):okM f:=⟨⟨by have:=h.1.1;omega,fun x hx=>by obtain ⟨a,b,c⟩:=h.1.2 x hx;exact ⟨a,by omega,c⟩⟩,h.2⟩
theorem qJ (h:okM f):zoz f.xs/\Jv f/\YX f/\YL f/\Y5 f/\Q5 f/\HH f:=by
 obtain ⟨h0,h⟩:=h;unfold Jx at h;refine ⟨h0,?_⟩;split at h
 ·split at h
  ·split at h
   ·split at h
    ·split at h
     ·split at h
      ·exact ⟨by assumption,by assumption,by assumption,by assumption,by assumption,by assumption⟩
      ·cases h
     ·cases h
    ·cases h
   ·cases h
  ·cases h
 ·cases h
theorem GX {es:List z6}:∀ {S:List Int} {n:Int},n∈HA S es↔n∈S∨∃ e∈es,e.ino=n:=by
 induction es with
 | nil=>intro S n;simp[HA]
 | cons e r ih =>
  intro S n;show n∈HA (YS S e.ino) r↔_;rw[ih,Gn];constructor
  ·rintro ((h | h) | ⟨e',he,h⟩)
   ·exact .inl h
   ·exact .inr ⟨e,Wk,h.symm⟩
   ·exact .inr ⟨e',Wl _ he,h⟩
  ·rintro (h | ⟨e',he,h⟩)
   ·exact .inl (.inl h)
   ·rcases WK.1 he with rfl | he
    ·exact .inl (.inr h.symm)
    ·exact .inr ⟨e',he,h⟩
theorem Ms {es:List z6}:∀ {S:List Int},YI xs S->(∀ e∈es,zk e.ino xs=true)->YI xs (HA S es):=by
 induction es with
 | nil=>intro S h _;exact h
 | cons e r ih=>intro S h he;exact ih (h.one (he e Wk)) fun e' h'=>he e' (Wl _ h')
theorem N7 {xs:List zn} (h3:∀ x∈xs,∀ e∈x.es,zk e.ino xs=true):∀ (m i:Nat) (S:List Int),YI xs S->(∀ n∈S,∃ k,Dep xs k n)->YI xs (Zn xs m i S)/\∀ n∈Zn xs m i S,∃ k,Dep xs k n
 | 0,i,S,h,hd=>by unfold Zn;exact ⟨h,hd⟩
 | m+1,i,S,h,hd=>by
  unfold Zn;split
  ·rename_i n hn;have hmem:=Wf hn;have hh:=h.has n hmem;obtain ⟨hm,_⟩:=jA hh;obtain ⟨k,hk⟩:=hd n hmem;refine N7 h3 m (i+1) _ (Ms h fun e he=>h3 _ hm e he) fun n' hn'=>?_;rcases GX.1 hn' with h' | ⟨e,he,rfl⟩
   ·exact hd n' h'
   ·exact ⟨k+1,.step hk hh he⟩
  ·exact ⟨h,hd⟩
theorem zfc {S T:List Int} (hS:S.Nodup) (hs:∀ n∈S,n∈T) (hl:T.length<=S.length):∀ n∈T,n∈S:=by
 intro n hn;by_cases h:n∈S
 ·exact h
 ·exfalso
  have:=UG (S:=n :: S) (T:=T) (OT.2 ⟨h,hS⟩) fun m hm=>by
   rcases WK.1 hm with rfl | hm
   ·exact hn
   ·exact hs m hm
  rw[Wg]at this;omega
theorem uK (h:okM f) {n:Int} (hn:zk n f.xs=true):∃ k,Dep f.xs k n:=by
 obtain ⟨_,h1,_,h3,_,h5,_⟩:=qJ h;have hroot:YI f.xs [1]:=⟨by simp,fun n hn=>by simp at hn;subst hn;exact h1.2.2.2.2.2.2.2.1⟩;obtain ⟨g1,g2⟩:=N7 h3 (f.xs.length+1) 0 [1] hroot fun n hn=>by simp at hn;subst hn;exact ⟨0,.root⟩
 have hS:=zfc (T:=f.xs.map (·.ino)) g1.nodup (fun m hm=>Nt.1 (g1.has m hm)) (by rw[We];exact Nat.le_of_eq h5.symm) n (Nt.1 hn);exact g2 n hS
theorem Vh {e:z6} (hh:zk n xs=true) (he:e∈(zg n xs).es):(e.ino,n)∈qm xs:=by
 obtain ⟨hm,hi⟩:=jA hh;unfold qm;exact Ay.2 ⟨_,hm,WR.2 ⟨e,he,by rw[hi]⟩⟩
theorem zmT (h:(n,p)∈l):1<=Zt n l:=by
 unfold Zt;exact WE.2 (List.ne_nil_of_mem (OC.2 ⟨h,by simp⟩))
theorem vq {q:Int} (hp:(n,p)∈l) (hq:(n,q)∈l) (h:Zt n l=1):p=q:=by
 unfold Zt at h;obtain ⟨x,hx⟩:=BD.1 h;have h1:(n,p)∈l.filter fun p=>p.1==n:=OC.2 ⟨hp,by simp⟩;have h2:(n,q)∈l.filter fun p=>p.1==n:=OC.2 ⟨hq,by simp⟩;rw[hx]at h1 h2;simp only[Ob]at h1 h2;exact WA Prod.snd (h1.trans h2.symm)
theorem kR (h:okM f) {n:Int} (hh:zk n f.xs=true) {e:z6} (he:e∈(zg n f.xs).es):(zg n f.xs).kind=2:=by
 obtain ⟨_,_,h2,_⟩:=qJ h;obtain ⟨hm,_⟩:=jA hh;by_cases hk:(zg n f.xs).kind=2
 ·exact hk
 ·have:=((h2 _ hm).2.1 hk).1;rw[this]at he;cases he
theorem Jh (h:okM f) {n:Int} (hh:zk n f.xs=true) {e:z6} (he:e∈(zg n f.xs).es):e.ino≠1:=fun h1=>by
 obtain ⟨_,hf,_,_,h4,_⟩:=qJ h;obtain ⟨hm,hi⟩:=jA hf.2.2.2.2.2.2.2.1;have hq:=(h4 _ hm).2;rw[if_pos hi,hi]at hq;have:=zmT (Vh hh he);rw[h1]at this;omega
theorem VN {f:FsV} (h:okM f):∀ (k k':Nat) (n:Int),Dep f.xs k n->Dep f.xs k' n->zk n f.xs=true->(zg n f.xs).kind=2->k=k'
 | 0,0,_,_,_,_,_=>rfl
 | 0,k'+1,_,h1,h2,hh,hk=>by
  cases h1;generalize hn:(1:Int)=n at h2;cases h2 with
  | step a b c=>exact absurd hn.symm (Jh h b c)
 | k+1,0,_,h1,h2,hh,hk=>by
  cases h2;generalize hn:(1:Int)=n at h1;cases h1 with
  | step a b c=>exact absurd hn.symm (Jh h b c)
 | k+1,k'+1,n,h1,h2,hh,hk=>by
  obtain ⟨_,hf,_,_,h4,_⟩:=qJ h;cases h1 with
  | @step _ p e a b c =>
   generalize hn:e.ino=n at h2 hh hk;cases h2 with
   | @step _ p' e' a' b' c' =>
    have hp:=Vh b c;have hp':=Vh b' c';rw[hn]at hp;obtain ⟨hm,hi⟩:=jA hh;have hq:=(h4 _ hm).2;rw[hi]at hq;have hne:e'.ino≠1:=Jh h b' c';rw[if_neg hne]at hq;have:=vq hp hp' (hq.2 hk).1;subst this;rw[VN h k k' p a a' b (kR h b c)]
end
section
theorem Qr (n:Int):∀ xs:List zn,Zt n (qm xs)=J1 n xs
 | []=>rfl
 | x :: r=>by
  have ih:=Qr n r;unfold J1 Me at ih ⊢;unfold qm at ih ⊢;rw[As,Wm,OX,←ih];unfold Zt Yb;rw[OW,Wj];congr 1
  induction x.es with
  | nil=>rfl
  | cons e es ie =>
   unfold VP at ie ⊢;rw[Wm,Ab,Ab];by_cases h:e.ino=n
   ·simp only[h,beq_self_eq_true,if_true,decide_true,Wg,ie]
   ·simp only[show (e.ino==n)=false from Ot.2 h,Wp h,WN,W2,ie]
theorem Uj (h:Jx f=0):Jv f/\YX f/\YL f/\Y5 f/\Q5 f/\HH f:=by
 unfold Jx at h;split at h
 ·split at h
  ·split at h
   ·split at h
    ·split at h
     ·split at h
      ·exact ⟨by assumption,by assumption,by assumption,by assumption,by assumption,by assumption⟩
      ·cases h
     ·cases h
    ·cases h
   ·cases h
  ·cases h
 ·cases h
theorem M6 {es:List z6} (h:Xl es):JN es:=by
 have hadj:∀ i (h1:i+1<es.length),Op.bytesLess es[i].name es[i+1].name=true:=fun i h1=>(h (i+1) h1).2.2 (by omega);have key:∀ (d i:Nat) (h1:i+d+1<es.length),Op.bytesLess (es[i]'(by omega)).name es[i+d+1].name=true:=by
  intro d
  induction d with
  | zero=>intro i h1;exact hadj i h1
  | succ d ih=>intro i h1;exact Md (ih i (by omega)) (hadj (i+d+1) (by omega))
 refine WV.2 fun i j hi hj hij=>?_;have:=key (j-i-1) i (by omega);have e:i+(j-i-1)+1=j:=by omega
 simp only[e]at this;exact this
theorem Ho (h:Jx f=0):FsI f:=by
 obtain ⟨h1,h2,h3,h4,h5,h6⟩:=Uj h;obtain ⟨a1,a2,a3,a4,a5,a6,a7,a8,a9⟩:=h1;refine ⟨a7,a6,fun x hx=>(h2 x hx).1,fun x hx=>?_,fun x hx hk=>((h2 x hx).2.1 hk).1,h3,fun x hx=>?_,a8,a9,?_⟩
 ·by_cases hk:x.kind=2
  ·exact M6 ((h2 x hx).2.2.1 hk).2
  ·rw[((h2 x hx).2.1 hk).1];exact List.Pairwise.nil
 ·rw[(h4 x hx).1,Qr]
 ·obtain ⟨b1,b2⟩:=jA a8;have q:=(h4 _ b1).2;rw[b2,if_pos rfl,Qr]at q;exact q.1
theorem zpP (h:okW w):Vk w:=by
 obtain ⟨h1,h2,h3,h4,h5⟩:=h.2;exact ⟨Ho h1,h4.1,h2,fun x hx=>⟨(h3 x hx).1,(h3 x hx).2.2.1⟩⟩
theorem ziM (h:okW w):yE 40 w:=by
 obtain ⟨⟨g1,g2,g3,g4⟩,h1,_⟩:=h;obtain ⟨a1,a2,a3,a4,a5,_⟩:=(Uj h1).1;exact ⟨g2.1,fun x hx=>by obtain ⟨q1,q2,q3⟩:=g2.2 x hx;exact ⟨q2,q1,q3⟩,g4,g1,g3.1,fun x hx=>by obtain ⟨q1,q2,q3⟩:=g3.2 x hx;exact ⟨q2,q1,q3⟩,by omega,by omega⟩
theorem yE.s (h:yE N w) (hi:Vk w) (hN:N<=10000):zg8 w:=by
 have hr:=vp hi.fs;have hn:=h.next;exact ⟨⟨by have:=h.len;omega,fun x hx=>by obtain ⟨q1,q2,q3⟩:=h.node x hx;exact ⟨by omega,by omega,fun e he=>by have:=q3 e he;omega⟩⟩,⟨by omega,by omega⟩,by have:=h.klen;omega,by have:=h.plen;omega⟩
structure OpS (o:OpV):Prop where
 a:o.a.length<=1000
 b:o.b.length<=1000
 d:o.d.length<=5000
structure VY (N:Nat) (d:qn):Prop where
 wi:Vk d.w
 wb:yE (40+N) d.w
 ops:d.ops.length<=N
 diags:d.diags.length<=N
 slot:0<=d.slot/\d.slot<=1073741824+N
theorem VY.s (h:VY N d) (hN:N<=9000):za9 d:=
 ⟨h.wi,h.wb.s h.wi (by omega),by have:=h.ops;omega,by have:=h.diags;omega,h.slot.1,by have:=h.slot.2;omega⟩
theorem VY.up (h:VY N d):VY (N+1) d:=⟨h.wi,h.wb.up,by have:=h.ops;omega,by have:=h.diags;omega,h.slot.1,by have:=h.slot.2;omega⟩
theorem MX {o:OpV} (h:(J9 d o).2≠0):(J9 d o).1=d:=by
 unfold J9 at h ⊢;split
 ·rfl
 ·split
  ·rfl
  ·rename_i h1 h2;rw[if_neg h1,if_neg h2]at h;exact absurd rfl h
theorem zoL (h:VY N d) {o:OpV} (ho:o.d.length<=5000):VY (N+1) (J9 d o).1:=by
 by_cases hz:(J9 d o).2=0
 case neg=>rw[MX hz];exact h.up
 unfold J9 at hz ⊢;split at hz
 ·exact absurd hz (show ¬(12:Int)=0 by decide)
 rename_i hk;rw[if_neg hk];split at hz
 ·rename_i hd;exact absurd hz hd
 rename_i hd;rw[if_neg hd];have hs:=h.slot;have hk7:(ZZ d o).kind<=7:=by show o.kind<=7;omega
 refine ⟨zrT h.wi _ hk7,doB h.wi h.wb _ ho hk7,by simp;exact h.ops,by have:=h.diags;simp only;omega,?_⟩;simp only;unfold ZZ;simp only;split<;>split<;>omega
end
section
theorem yl {f:FsV} (h:okM f):∀ (k:Nat) (n:Int),Dep f.xs k n->zk n f.xs=true->(zg n f.xs).kind=2->∃ L:List Int,L.length=k+1/\L.Nodup/\(∀ m∈L,zk m f.xs=true)/\∀ m∈L,(zg m f.xs).kind=2/\∃ j,j<=k/\Dep f.xs j m
 | 0,n,hd,hh,hk=>⟨[n],rfl,by simp,fun m hm=>by simp at hm;subst hm;exact hh,fun m hm=>by simp at hm;subst hm;exact ⟨hk,0,Wb _,hd⟩⟩
 | k+1,_,hd,hh,hk=>by
  generalize hn:k+1=k1 at hd;cases hd with
  | root=>cases hn
  | @step k0 p e a b c =>
   obtain rfl:k=k0:=by omega
   obtain ⟨L,l1,l2,l3,l4⟩:=yl h k p a b (kR h b c);refine ⟨e.ino :: L,by simp[l1],OT.2 ⟨fun hm=>?_,l2⟩,fun m hm=>?_,fun m hm=>?_⟩
   ·obtain ⟨_,j,hj,hd⟩:=l4 _ hm;have:=VN h _ _ _ hd (.step a b c) hh hk;omega
   ·rcases WK.1 hm with rfl | hm
    ·exact hh
    ·exact l3 m hm
   ·rcases WK.1 hm with rfl | hm
    ·exact ⟨hk,k+1,Wb _,.step a b c⟩
    ·obtain ⟨q1,j,q2,q3⟩:=l4 m hm;exact ⟨q1,j,by omega,q3⟩
theorem zdW (h:okM f) {k:Nat} {n:Int} (hd:Dep f.xs k n) (hh:zk n f.xs=true) (hk:(zg n f.xs).kind=2):k<f.xs.length:=by
 obtain ⟨L,l1,l2,l3,_⟩:=yl h k n hd hh hk;have:=Z4 l2 l3;omega
def jm (xs:List zn):Nat->Int->List Lz->JS
 | 0,_,_=>[]
 | m+1,n,ns=>if zk n xs then (ns,zg n xs) :: (zg n xs).es.flatMap (fun e=>jm xs m e.ino (ns++[e.name])) else []
theorem Q6 {α β:Type} {l:List α} {g g':α->List β} (h:∀ a∈l,g a=g' a):l.flatMap g=l.flatMap g':=by
 induction l with
 | nil=>rfl
 | cons a r ih=>rw[As,As,h a Wk,ih fun b hb=>h b (Wl _ hb)]
theorem ym {f:FsV} (h:okM f):∀ (m m' k:Nat) (n:Int) (ns:List Lz),Dep f.xs k n->k<=f.xs.length->f.xs.length+1<=m+k->f.xs.length+1<=m'+k->jm f.xs m n ns=jm f.xs m' n ns
 | 0,m',k,n,ns,hd,hk,h1,h2=>by omega
 | m+1,0,k,n,ns,hd,hk,h1,h2=>by omega
 | m+1,m'+1,k,n,ns,hd,hk,h1,h2=>by
  unfold jm;split
  ·rename_i hh;congr 1;refine Q6 fun e he=>?_;have hdir:=kR h hh he;have hlt:=zdW h hd hh hdir;exact ym h m m' (k+1) e.ino _ (.step hd hh he) (by omega) (by omega) (by omega)
  ·rfl
abbrev trV (xs:List zn):Int->List Lz->JS:=jm xs (xs.length+1)
theorem zlm (h:okM f) {n:Int} (hh:zk n f.xs=true):∃ k,k<=f.xs.length/\Dep f.xs k n:=by
 obtain ⟨k,hd⟩:=uK h hh;refine ⟨k,?_,hd⟩;cases hd with
 | root=>exact Wc _
 | step a b c=>exact zdW h a b (kR h b c)
theorem zn8 (h:okM f):zam f (trV f.xs):=⟨fun n ns hh=>by
 obtain ⟨k,hk,hd⟩:=zlm h hh;show jm f.xs (f.xs.length+1) n ns=_;rw[jm,if_pos hh];congr 1;refine Q6 fun e he=>?_;have hlt:=zdW h hd hh (kR h hh he);exact ym h _ _ (k+1) e.ino _ (.step hd hh he) (by omega) (by omega) (by omega),fun n ns hh=>by
 show jm f.xs (f.xs.length+1) n ns=_;rw[jm,if_neg (by rw[hh];decide)]⟩
theorem znE (h:okM f):zd8 f (trV f.xs):=by
 obtain ⟨p0,p1,p2,p3,_⟩:=qJ h;exact ⟨zn8 h,p0,p1.2.2.2.2.2.2.1,p3,fun x hx hk=>((p2 x hx).2.1 hk).1⟩
end
section
theorem zdu (ns:List Lz) (x:Lz) (hne:∀ y∈ns,y≠[]):qS (ns++[x])=Hc (qS ns) x:=by
 have hj:=x7 (ns++[x]) ns.length x (by simp);rw[Wh (by simp),OJ rfl]at hj;unfold qS;rw[if_neg (by simp),hj];by_cases h:ns = []
 ·subst h;rfl
 ·have hl:ns.length≠0:=fun h0=>h (WO h0);rw[if_neg hl,if_neg h];have hne47:(47 :: Lib.join ns [47])≠[47]:=fun he=>by
   have h1:Lib.join ns [47] = []:=(List.cons.inj he).2;have h2:=QC ns h;rw[h1]at h2;cases ns with
   | nil=>exact h rfl
   | cons y r =>
    have:=WE.2 (hne y Wk);simp at h2;omega
  unfold Hc;rw[if_neg hne47];simp
end
section
inductive Anc (xs:List zn) (n:Int):Nat->Int->Prop
 | same:Anc xs n 0 n
 | step {j:Nat} {p:Int} {e:z6}:Anc xs n j p->zk p xs=true->e∈(zg p xs).es->Anc xs n (j+1) e.ino
theorem Anc.dep (hd:Dep xs k n):∀ {j:Nat} {d:Int},Anc xs n j d->Dep xs (k+j) d
 | _,_,.same=>hd
 | _,_,.step a b c=>.step (a.dep hd) b c
theorem Anc.up {e:z6} (hh:zk n xs=true) (he:e∈(zg n xs).es):∀ {j:Nat} {d:Int},Anc xs e.ino j d->Anc xs n (j+1) d
 | _,_,.same=>.step .same hh he
 | _,_,.step a b c=>.step (a.up hh he) b c
theorem XJ {xs:List zn}:∀ (m:Nat) (n:Int) (ns:List Lz),∀ p∈jm xs m n ns,∃ j,Anc xs n j p.2.ino/\zk p.2.ino xs=true/\zg p.2.ino xs=p.2
 | 0,n,ns,p,hp=>by cases hp
 | m+1,n,ns,p,hp=>by
  unfold jm at hp;split at hp
  ·rename_i hh;obtain ⟨_,hi⟩:=jA hh;rcases WK.1 hp with rfl | hp
   ·exact ⟨0,by rw[hi];exact .same,by rw[hi];exact hh,by rw[hi]⟩
   ·obtain ⟨e,he,hp⟩:=Ay.1 hp;obtain ⟨j,q1,q2⟩:=XJ m _ _ p hp;exact ⟨j+1,q1.up hh he,q2⟩
  ·cases hp
theorem zau {f:FsV} (h:okM f) {a b:Int}:∀ (j:Nat) (d:Int),Anc f.xs a j d->Anc f.xs b j d->zk d f.xs=true->(zg d f.xs).kind=2->a=b/\zk a f.xs=true/\(zg a f.xs).kind=2
 | 0,d,h1,h2,hh,hk=>by
  cases h1;cases h2;exact ⟨rfl,hh,hk⟩
 | j+1,d,h1,h2,hh,hk=>by
  obtain ⟨_,_,_,_,h4,_⟩:=qJ h;cases h1 with
  | @step _ p e x y z =>
   generalize hn:e.ino=d at h2 hh hk;cases h2 with
   | @step _ p' e' x' y' z' =>
    have hp:=Vh y z;have hp':=Vh y' z';rw[hn]at hp;obtain ⟨hm,hi⟩:=jA hh;have hq:=(h4 _ hm).2;rw[hi,if_neg (Jh h y' z')]at hq;have:=vq hp hp' (hq.2 hk).1;subst this;exact zau h j p x x' y (kR h y z)
theorem zmO {e e':z6} (hh:zk n xs=true) (hs:[e,e'].Sublist (zg n xs).es) (hi:e.ino=e'.ino):2<=Zt e.ino (qm xs):=by
 obtain ⟨hm,hino⟩:=jA hh;have h1:([e,e'].map fun e=>(e.ino,(zg n xs).ino)).Sublist (VP (zg n xs) (zg n xs).es):=hs.map _;obtain ⟨i,hi',hx⟩:=WF hm;have h2:(VP (zg n xs) (zg n xs).es).Sublist (qm xs):=by
  obtain ⟨s,t,hst⟩:=List.append_of_mem hm;unfold qm
  conv=>rhs;rw[hst]
  rw[Bl,As];exact (List.sublist_append_left _ _).trans (List.sublist_append_right _ _)
 have h3:=((h1.trans h2).filter fun p=>p.1==e.ino).length_le;unfold Zt;simpa [hi] using h3
abbrev YW (l:JS):List Int:=(l.filter fun p=>decide (p.2.kind=2)).map fun p=>p.2.ino
theorem Uz {l:JS} {d:Int} (h:d∈YW l):∃ p∈l,p.2.kind=2/\p.2.ino=d:=by
 obtain ⟨p,hp,rfl⟩:=WR.1 h;obtain ⟨h1,h2⟩:=OC.1 hp;exact ⟨p,h1,WQ h2,rfl⟩
theorem Xm {f:FsV} (h:okM f):∀ (m:Nat) (n:Int) (ns:List Lz),zk n f.xs=true->(YW (jm f.xs m n ns)).Nodup
 | 0,n,ns,_=>An
 | m+1,n,ns,hh=>by
  obtain ⟨k,hd⟩:=uK h hh;obtain ⟨_,_,_,h3,h4,_⟩:=qJ h;obtain ⟨hm,hi⟩:=jA hh;have key:∀ L:List z6,L.Sublist (zg n f.xs).es->(YW (L.flatMap fun e=>jm f.xs m e.ino (ns++[e.name]))).Nodup:=by
   intro L
   induction L with
   | nil=>intro _;exact An
   | cons e r ih =>
    intro hs;have he:e∈(zg n f.xs).es:=hs.subset Wk;have hr:r.Sublist (zg n f.xs).es:=(List.sublist_cons_self e r).trans hs;have hap:YW ((e :: r).flatMap fun e=>jm f.xs m e.ino (ns++[e.name]))=YW (jm f.xs m e.ino (ns++[e.name]))++YW (r.flatMap fun e=>jm f.xs m e.ino (ns++[e.name])):=by
     rw[As];unfold YW;rw[OW,W9]
    rw[hap,Ah];refine ⟨Xm h m e.ino _ (h3 _ hm e he),ih hr,fun d hd1 d' hd2 hdd=>?_⟩;subst hdd;obtain ⟨p,p1,p2,rfl⟩:=Uz hd1;obtain ⟨p',p1',p2',p3'⟩:=Uz hd2;obtain ⟨e',he',p1'⟩:=Ay.1 p1';obtain ⟨j,a1,a2,a3⟩:=XJ m _ _ p p1;obtain ⟨j',b1,b2,b3⟩:=XJ m _ _ p' p1';rw[p3']at b1;have hk:(zg p.2.ino f.xs).kind=2:=by rw[a3];exact p2
    have hdep:=VN h _ _ _ (a1.dep (.step hd hh he)) (b1.dep (.step hd hh (hr.subset he'))) a2 hk;obtain rfl:j=j':=by omega
    obtain ⟨q1,q2,q3⟩:=zau h j _ a1 b1 a2 hk;have hs2:[e,e'].Sublist (zg n f.xs).es:=(List.Sublist.cons_cons e (List.singleton_sublist.2 he')).trans hs;have h2:=zmO hh hs2 q1;obtain ⟨hm2,hi2⟩:=jA q2;have hq:=(h4 _ hm2).2;rw[hi2,if_neg (Jh h hh he)]at hq;have:=(hq.2 q3).1;omega
  unfold jm;rw[if_pos hh];by_cases hk:(zg n f.xs).kind=2
  ·have hc:YW ((ns,zg n f.xs) :: (zg n f.xs).es.flatMap fun e=>jm f.xs m e.ino (ns++[e.name]))=n :: YW ((zg n f.xs).es.flatMap fun e=>jm f.xs m e.ino (ns++[e.name])):=by
    unfold YW;rw[On (by simpa using hk),Wm,hi]
   rw[hc,OT];refine ⟨fun hmem=>?_,key _ (List.Sublist.refl _)⟩;obtain ⟨p,p1,p2,p3⟩:=Uz hmem;obtain ⟨e,he,p1⟩:=Ay.1 p1;obtain ⟨j,a1,a2,a3⟩:=XJ m _ _ p p1;rw[p3]at a1;have:=VN h _ _ _ (a1.dep (.step hd hh he)) hd hh hk;omega
  ·have hc:YW ((ns,zg n f.xs) :: (zg n f.xs).es.flatMap fun e=>jm f.xs m e.ino (ns++[e.name]))=YW ((zg n f.xs).es.flatMap fun e=>jm f.xs m e.ino (ns++[e.name])):=by
    unfold YW;rw[O2 (by simpa using hk)]
   rw[hc];exact key _ (List.Sublist.refl _)
end
section
def Hg (l:JS):Nat:=(l.map fun p=>p.2.es.length).sum
theorem zhH (a b:JS):Hg (a++b)=Hg a+Hg b:=by unfold Hg;rw[W9,BM]
theorem zaT {xs:List zn}:∀ (m:Nat) (n:Int) (ns:List Lz),(jm xs m n ns).length<=1+Hg (jm xs m n ns)
 | 0,n,ns=>Wc _
 | m+1,n,ns=>by
  unfold jm;split
  ·have key:∀ L:List z6,(L.flatMap fun e=>jm xs m e.ino (ns++[e.name])).length<=L.length+Hg (L.flatMap fun e=>jm xs m e.ino (ns++[e.name])):=by
    intro L
    induction L with
    | nil=>exact Wb _
    | cons e r ih =>
     rw[As,Wj,zhH,Wg];have:=zaT (xs:=xs) m e.ino (ns++[e.name]);omega
   have:=key (zg n xs).es;have hs:∀ l:JS,Hg ((ns,zg n xs) :: l)=(zg n xs).es.length+Hg l:=fun l=>by unfold Hg;rw[Wm,OX]
   rw[Wg,hs];omega
  ·exact Wc _
theorem zjo {l:JS} (h:∀ p∈l,p.2.es.length<=3240/\(p.2.kind≠2->p.2.es = [])):Hg l<=3240*(YW l).length:=by
 induction l with
 | nil=>exact Wc _
 | cons p r ih =>
  have hp:=h p Wk;have ih:=ih fun q hq=>h q (Wl _ hq);unfold Hg at ih ⊢;rw[Wm,OX];unfold YW at ih ⊢;by_cases hk:p.2.kind=2
  ·rw[On (by simpa using hk),Wm,Wg];omega
  ·rw[O2 (by simpa using hk),hp.2 hk];simpa using ih
theorem zjA (h:okM f) (m:Nat) (n:Int) (ns:List Lz):(jm f.xs m n ns).length<=10497601:=by
 obtain ⟨h0,_,h2,_⟩:=qJ h;cases hh:zk n f.xs with
 | false =>
  cases m with
  | zero=>exact Wc _
  | succ m=>unfold jm;rw[hh];exact Wc _
 | true =>
  have h1:=zaT (xs:=f.xs) m n ns;have hg:∀ p∈jm f.xs m n ns,p.2∈f.xs:=fun p hp=>by
   obtain ⟨j,_,q2,q3⟩:=XJ m n ns p hp;rw[←q3];exact (jA q2).1
  have hs:=zjo (l:=jm f.xs m n ns) fun p hp=>⟨(h0.2 _ (hg p hp)).2.1,fun hk=>((h2 _ (hg p hp)).2.1 hk).1⟩;have hd:=Z4 (Xm h m n ns hh) fun d hd=>by
   obtain ⟨p,p1,_,rfl⟩:=Uz hd;obtain ⟨_,_,q2,_⟩:=XJ m n ns p p1;exact q2
  have:=h0.1;omega
def zhY (ns:List Lz):Nat:=(ns.map fun x=>x.length+1).sum
theorem M2 (ns:List Lz) (x:Lz):zhY (ns++[x])=zhY ns+(x.length+1):=by
 unfold zhY;rw[W9,BM];simp
theorem VG {xs:List zn} (h0:zoz xs):∀ (m:Nat) (n:Int) (ns:List Lz),∀ p∈jm xs m n ns,p.1.length<=ns.length+m/\zhY p.1<=zhY ns+m*301
 | 0,n,ns,p,hp=>by cases hp
 | m+1,n,ns,p,hp=>by
  unfold jm at hp;split at hp
  ·rename_i hh;obtain ⟨hm,_⟩:=jA hh;rcases WK.1 hp with rfl | hp
   ·exact ⟨BF _ _,BF _ _⟩
   ·obtain ⟨e,he,hp⟩:=Ay.1 hp;obtain ⟨q1,q2⟩:=VG h0 m _ _ p hp;have:=(h0.2 _ hm).2.2 e he;rw[M2]at q2;rw[Wj,Ae]at q1;exact ⟨by omega,by omega⟩
  ·cases hp
theorem Qj (ns:List Lz):(Lib.join ns [47]).length<=zhY ns:=by
 by_cases h:ns = []
 ·subst h;exact Wc _
 ·have:=QC ns h;unfold zhY;omega
theorem zi4 (h:okM f) (n:Int) (ns:List Lz) (h1:ns.length<=100000) (h2:zhY ns<=20000):vo (trV f.xs) n ns:=by
 obtain ⟨h0,_⟩:=qJ h;refine ⟨WM (zjA h _ n ns) (by decide),fun p hp=>?_⟩;obtain ⟨q1,q2⟩:=VG h0 _ n ns p hp;have:=Qj p.1;have:=h0.1;exact ⟨by omega,by omega⟩
end
section
theorem Gq {xs:List zn}:∀ (m:Nat) (n:Int) (ns:List Lz) (j:Nat) (d:Int),Anc xs n j d->j<m->zk n xs=true->(∀ x∈xs,∀ e∈x.es,zk e.ino xs=true)->∃ p∈jm xs m n ns,p.2.ino=d
 | 0,n,ns,j,d,ha,hj,hh,h3=>by omega
 | m+1,n,ns,0,d,ha,hj,hh,h3=>by
  cases ha;obtain ⟨_,hi⟩:=jA hh;refine ⟨(ns,zg n xs),?_,hi⟩;unfold jm;rw[if_pos hh];exact Wk
 | m+1,n,ns,j+1,d,ha,hj,hh,h3=>by
  have key:∀ (j:Nat) (d:Int),Anc xs n (j+1) d->∃ e∈(zg n xs).es,Anc xs e.ino j d:=by
   intro j
   induction j with
   | zero =>
    intro d ha;cases ha with
    | step a b c=>cases a;exact ⟨_,c,.same⟩
   | succ j ih =>
    intro d ha;cases ha with
    | step a b c =>
     obtain ⟨e,he,h⟩:=ih _ a;exact ⟨e,he,.step h b c⟩
  obtain ⟨e,he,h⟩:=key j d ha;obtain ⟨hm,_⟩:=jA hh;obtain ⟨p,p1,p2⟩:=Gq m e.ino (ns++[e.name]) j d h (by omega) (h3 _ hm e he) h3;refine ⟨p,?_,p2⟩;unfold jm;rw[if_pos hh];exact Wl _ (Ay.2 ⟨e,he,p1⟩)
theorem zgD {xs:List zn}:∀ {k:Nat} {n:Int},Dep xs k n->Anc xs 1 k n
 | _,_,.root=>.same
 | _,_,.step a b c=>.step (zgD a) b c
theorem zey (h:okM f) {n:Int} (hh:zk n f.xs=true):∃ p∈trV f.xs 1 [],p.2.ino=n:=by
 obtain ⟨_,h1,_,h3,_⟩:=qJ h;obtain ⟨k,hk,hd⟩:=zlm h hh;exact Gq _ 1 [] k n (zgD hd) (by omega) h1.2.2.2.2.2.2.2.1 h3
theorem U0 {m:Nat} {p:List Lz×zn} (hp:p∈jm f.xs m n ns):zk p.2.ino f.xs=true/\zg p.2.ino f.xs=p.2:=by
 obtain ⟨_,_,q⟩:=XJ m n ns p hp;exact q
theorem Uy:∀ {l:JS} {n:Int},(YW l).Nodup->(∀ p∈l,p.2.ino=n->p.2.kind=2)->(∃ p∈l,p.2.ino=n)->∃ p,l.filter (fun p=>decide (p.2.ino=n)) = [p]
 | [],n,_,_,⟨p,hp,_⟩=>by cases hp
 | q :: l,n,hn,hk,hex=>by
  have hk':∀ p∈l,p.2.ino=n->p.2.kind=2:=fun p hp=>hk p (Wl _ hp);by_cases hq:q.2.ino=n
  ·have hk2:=hk q Wk hq;have hc:YW (q :: l)=q.2.ino :: YW l:=by
    unfold YW;rw[On (by simpa using hk2),Wm]
   rw[hc,OT,hq]at hn;have he:l.filter (fun p=>decide (p.2.ino=n)) = []:=by
    rw[AW];intro p hp hpn;have hpn:=WQ hpn;refine hn.1 ?_;exact WR.2 ⟨p,OC.2 ⟨hp,by simpa using hk' p hp hpn⟩,hpn⟩
   exact ⟨q,by rw[On (by simpa using hq),he]⟩
  ·have hn':(YW l).Nodup:=by
    unfold YW at hn ⊢;by_cases hk2:q.2.kind=2
    ·rw[On (by simpa using hk2),Wm,OT]at hn;exact hn.2
    ·rw[O2 (by simpa using hk2)]at hn;exact hn
   obtain ⟨p,hp,hpn⟩:=hex;have hpl:p∈l:=by
    rcases WK.1 hp with rfl | hp
    ·exact absurd hpn hq
    ·exact hp
   obtain ⟨p',h⟩:=Uy hn' hk' ⟨p,hpl,hpn⟩;exact ⟨p',by rw[O2 (by simpa using hq)];exact h⟩
theorem MU (h:okM f) {n:Int} (hh:zk n f.xs=true) (hk:(zg n f.xs).kind=2):∃ p,Zb n (trV f.xs 1 []) = [p]/\kW n (trV f.xs 1 [])=some p:=by
 obtain ⟨_,h1,_⟩:=qJ h;have hkk:∀ p∈trV f.xs 1 [],p.2.ino=n->p.2.kind=2:=fun p hp hpn=>by
  obtain ⟨_,q⟩:=U0 hp;rw[hpn]at q;rw[←q];exact hk
 obtain ⟨p,hp⟩:=Uy (Xm h _ 1 [] h1.2.2.2.2.2.2.2.1) hkk (zey h hh);refine ⟨qS p.1,by unfold Zb;rw[hp];rfl,?_⟩;unfold kW;have he:(fun q:List Lz×zn=>decide (q.2.ino=n)&&decide (q.2.kind=2))=fun q=>decide (q.2.ino=n)&&decide (q.2.kind=2):=rfl;rw[←List.head?_filter];have hf:(trV f.xs 1 []).filter (fun q=>decide (q.2.ino=n)&&decide (q.2.kind=2))=(trV f.xs 1 []).filter fun q=>decide (q.2.ino=n):=by
  refine List.filter_congr fun q hq=>?_;by_cases hqn:q.2.ino=n
  ·simp[hqn,hkk q hq hqn]
  ·simp[hqn]
 rw[hf,hp];rfl
end
section
theorem Nq {xs:List zn} (hm:∀ x∈xs,∀ e∈x.es,may e.name=true):∀ (m:Nat) (n:Int) (ns:List Lz),∀ p∈jm xs m n ns,∃ zs,p.1=ns++zs/\∀ z∈zs,may z=true
 | 0,n,ns,p,hp=>by unfold jm at hp;cases hp
 | m+1,n,ns,p,hp=>by
  unfold jm at hp;split at hp
  ·rename_i hh;rcases WK.1 hp with rfl | hp
   ·exact ⟨[],by simp,fun z hz=>by cases hz⟩
   ·obtain ⟨e,he,hp⟩:=Ay.1 hp;obtain ⟨zs,h1,h2⟩:=Nq hm m e.ino _ p hp;refine ⟨e.name :: zs,by rw[h1,WT];rfl,fun z hz=>?_⟩;rcases WK.1 hz with rfl | hz
    ·exact hm _ (jA hh).1 e he
    ·exact h2 z hz
  ·cases hp
theorem zfx {es:List z6} (h:Xl es):es.Pairwise fun a b=>a.name≠b.name:=by
 have key:∀ (d i:Nat) (hj:i+d+1<es.length),es[i].name<es[i+d+1].name:=by
  intro d
  induction d with
  | zero =>
   intro i hj;have h1:=(h (i+1) hj).2.2 (by omega);rw[bytesLess_eq]at h1;exact WQ h1
  | succ d ih =>
   intro i hj;have h1:=(h (i+(d+1)+1) hj).2.2 (by omega);rw[bytesLess_eq]at h1;have h1:=WQ h1;have h2:=ih i (by omega);exact List.lt_trans h2 h1
 refine WV.2 fun i j hi hj hij he=>?_;obtain ⟨d,rfl⟩:∃ d,j=i+d+1:=⟨j-i-1,by omega⟩;have h1:=key d i hj;rw[he]at h1;exact List.lt_irrefl _ h1
theorem k9 (h:okM f):(∀ x∈f.xs,∀ e∈x.es,may e.name=true)/\∀ x∈f.xs,x.es.Pairwise fun a b=>a.name≠b.name:=by
 obtain ⟨_,_,h2,_⟩:=qJ h;have key:∀ x∈f.xs,Xl x.es:=fun x hx=>by
  by_cases hk:x.kind=2
  ·exact ((h2 x hx).2.2.1 hk).2
  ·rw[((h2 x hx).2.1 hk).1];intro i hi;simp at hi
 refine ⟨fun x hx e he=>?_,fun x hx=>zfx (key x hx)⟩;obtain ⟨i,hi,rfl⟩:=WF he;exact (key x hx i hi).1
end
section
open CA CB
open Go.RowKit
def J0 (p n:Lz):Lz:=if Lib.hasSuffix p [47] then p++n else p++[47]++n
theorem zem (p n:Lz) (hp:p.length<=1000000) (hn:n.length<=1000000):Fun Tryz.prog G0 49 [.str p,.str n] (.str (J0 p n)) 0:=by
 have h:=ZO p [47] hp;cases hs:Lib.hasSuffix p [47] with
 | true =>
  have e:J0 p n=p++n:=by unfold J0;rw[hs,if_pos rfl]
  rw[hs]at h;refine fon Tryz.func49 ?_;dsimp only[Tryz.f49];push_cast;refine cl h ?_;push_cast
  repeat refine an ?_
  exact dn (by push_cast [ze,zd,CLe,zf,e])
 | false =>
  have e:J0 p n=p++[47]++n:=by unfold J0;rw[hs];rfl
  rw[hs]at h;refine fon Tryz.func49 ?_;dsimp only[Tryz.f49];push_cast;refine cl h ?_;push_cast
  repeat refine an ?_
  exact dn (by push_cast [ze,zd,CLe,zf,e])
theorem zcb (p n:Lz) (hp:p.length<=1000000) (hn:n.length<=1000000):Fun Tryz.prog G0 54 [.str p,.str n] (.str (J0 p n)) 0:=by
 rcases AM p with rfl | ⟨l,b,rfl⟩
 ·have e:J0 [] n = []++[47]++n:=rfl;refine fon Tryz.func54 ?_;dsimp only[Tryz.f54];push_cast
  repeat refine an ?_
  exact dn (by push_cast [ze,zd,CLe,zf,e])
 ·rw[Au]at hp ⊢;have hll:((l++[b]).length:Int)=(l.length:Int)+1:=by simp
  have hpos:((0:Int)<(l.length:Int)+1)=True:=eq_true (by omega);have hm1:(l.length:Int)+1-1=(l.length:Int):=by omega
  have hb:(l++[b])[l.length]?=some b:=by simp
  have hsx:Lib.hasSuffix (l++[b]) [47]=decide (b=47):=zk3 l b;by_cases h:b=47
  ·have e:J0 (l++[b]) n=l++[b]++n:=by unfold J0;rw[hsx,if_pos (Wo h)]
   have h':((b.toNat:Int)=47)=True:=eq_true (by rw[h];rfl);generalize l++[b]=p at *;refine fon Tryz.func54 ?_;dsimp only[Tryz.f54];push_cast [hll,hpos,hm1,Oz,hb,h']
   repeat refine an ?_
   exact dn (by push_cast [ze,zd,CLe,zf,e])
  ·have e:J0 (l++[b]) n=l++[b]++[47]++n:=by unfold J0;rw[hsx,if_neg (by simpa using h)]
   have h':((b.toNat:Int)=47)=False:=WH (xX h);generalize l++[b]=p at *;refine fon Tryz.func54 ?_;dsimp only[Tryz.f54];push_cast [hll,hpos,hm1,Oz,hb,h']
   repeat refine an ?_
   exact dn (by push_cast [ze,zd,CLe,zf,e])
theorem zlB (h:okM f) {n:Int} (hh:zk n f.xs=true) (hk:(zg n f.xs).kind=2) :
  ∃ ns,(∀ z∈ns,may z=true)/\ns.length<=3241/\zhY ns<=980000/\Zb n (trV f.xs 1 []) = [qS ns]/\kW n (trV f.xs 1 [])=some (qS ns):=by
 obtain ⟨h0,h1,_⟩:=qJ h;have hkk:∀ p∈trV f.xs 1 [],p.2.ino=n->p.2.kind=2:=fun p hp hpn=>by
  obtain ⟨_,q⟩:=U0 hp;rw[hpn]at q;rw[←q];exact hk
 obtain ⟨p,hp⟩:=Uy (Xm h _ 1 [] h1.2.2.2.2.2.2.2.1) hkk (zey h hh);obtain ⟨q,q1,q2⟩:=MU h hh hk;have hq:Zb n (trV f.xs 1 []) = [qS p.1]:=by unfold Zb;rw[hp];rfl
 rw[hq]at q1;have hqe:qS p.1=q:=by simpa using q1
 have hpm:p∈trV f.xs 1 []:=(OC.1 (by rw[hp];exact Ob.2 rfl)).1;obtain ⟨zs,z1,z2⟩:=Nq (k9 h).1 _ 1 [] p hpm;obtain ⟨t1,t2⟩:=VG h0 _ 1 [] p hpm;have t3:=Qj p.1;have t4:zhY []=0:=rfl;have h40:=h0.1;rw[OB]at z1;rw[←z1]at z2;simp only[Wz,t4]at t1 t2;exact ⟨p.1,z2,by omega,by omega,hq,by rw[q2,hqe]⟩
def zE (f:FsV) (s:zO):Lz:=Hc ((kW s.dir (trV f.xs 1 [])).getD []) s.name
theorem xb (f:FsV) (h:okM f) (s:zO) (hh:zk s.dir f.xs=true) (hk:(zg s.dir f.xs).kind=2) (hm:may s.name=true):Fun Tryz.prog G0 61 [.agg (fsC f),.agg (jL s)] (.str (zE f s)) 0:=by
 obtain ⟨ns,n1,n2,n3,n4,n5⟩:=zlB h hh hk;have hp:=uV f s.dir _ (znE h) (zi4 h 1 [] (by decide) (by decide));have hml:=NV hm;have hjw:=Qj ns;have hjl:(qS ns).length<=980001:=by unfold qS;split<;>simp<;>omega
 have hr:=UK (qS ns) (by omega);unfold HM at hr;rw[Zj ns fun z hz=>Ux (n1 z hz)]at hr;have hj:=Qf (ns++[s.name]) (by simp;omega) (by
  have a1:=Qj (ns++[s.name]);rw[M2]at a1;omega)
 rw[zdu ns s.name fun y hy=>(Ux (n1 y hy)).1]at hj;have e:zE f s=Hc (qS ns) s.name:=by unfold zE;rw[n5];rfl
 rw[n5]at hp;have hsl:(zF ns).length=ns.length:=We ..;refine fof (fun i=>if i=2 then [false,false,false,false,false,false,true,false,false] else []) Tryz.func61 ?_;dsimp only[Tryz.f61];push_cast;refine cl hp ?_;push_cast [W5,OQ];refine cl hr ?_;push_cast
 repeat refine an ?_
 refine cl hj ?_;push_cast;exact dn (by push_cast [ze,zd,CLe,zf,e])
end
section
open Go.RowKit
end
section
open Go.RowKit
end
section
open CA CB
open Go.RowKit
end
section
open Go.RowKit Go.ChangeMaps Go.ChangeShapes Go.WideShapes Go.Deep Go.Joins
section
variable {H:Type} {enc:TypeId×Value->H} {W:World}
end
theorem zrF {W:World} {l:List (String×DataW Unit)} (h:laidMetH Tryz.prog l W) (hp:(l.filter fun x=>x.2.handleName?.isSome) = []) (hm:("drayman/op.has",Rows.laid_drayman_op_has)∈l):XT G1 (xl W):=fun g cs hc=>by
 unfold G1 at hc;split at hc
 ·rename_i hg;subst hg;cases hc;exact JH (t:=223) h hp hm (by kernel_rfl) (by kernel_rfl) (m:=4) (by kernel_rfl) (by kernel_rfl) (by kernel_rfl)
 ·cases hc
theorem zsb {W:World} {l:List (String×DataW Unit)} (h:laidMetH Tryz.prog l W) (hp:(l.filter fun x=>x.2.handleName?.isSome) = []) (hm1:("drayman/diag.phrases",Rows.laid_drayman_diag_phrases)∈l) (hm2:("drayman/args.kinds",Rows.laid_drayman_args_kinds)∈l) (hm3:("drayman/errs.messages",Rows.laid_drayman_errs_messages)∈l):XT G2 (xl W):=fun g cs hc=>by
 unfold G2 at hc;split at hc
 ·rename_i hg;subst hg;cases hc;exact JH (t:=204) h hp hm1 (by kernel_rfl) (by kernel_rfl) (m:=4) (vs:=phr.map fun l=>Value.string ⟨l.toArray⟩) (by kernel_rfl) (by kernel_rfl) (by kernel_rfl)
 ·split at hc
  ·rename_i hg;subst hg;cases hc;exact JH (t:=203) h hp hm2 (by kernel_rfl) (by kernel_rfl) (m:=4) (by kernel_rfl) (by kernel_rfl) (by kernel_rfl)
  ·split at hc
   ·rename_i hg;subst hg;cases hc;exact JH (t:=244) h hp hm3 (by kernel_rfl) (by kernel_rfl) (m:=4) (vs:=zs9.map fun l=>Value.string ⟨l.toArray⟩) (by kernel_rfl) (by kernel_rfl) (by kernel_rfl)
   ·cases hc
theorem zsp {W:World} {l:List (String×DataW Unit)} (h:laidMetH Tryz.prog l W) (hp:(l.filter fun x=>x.2.handleName?.isSome) = []) (hm:("drayman/op.has",Rows.laid_drayman_op_has)∈l) (hm1:("drayman/diag.phrases",Rows.laid_drayman_diag_phrases)∈l) (hm2:("drayman/args.kinds",Rows.laid_drayman_args_kinds)∈l) (hm3:("drayman/errs.messages",Rows.laid_drayman_errs_messages)∈l):XT GD (xl W):=fun g cs hc=>by
 unfold GD at hc;split at hc
 ·exact zrF h hp hm g cs hc
 ·exact zsb h hp hm1 hm2 hm3 g cs hc
end
section
structure zld (x:zn):Prop where
 par:x.kind≠2->x.parent=0
 bare:x.kind=2->x.data = []
 nam:∀ e∈x.es,may e.name=true
 lnk:x.kind=3->1<=x.data.length/\x.data.length<=4095/\∀ b∈x.data,b≠0
 named:x.ino≠1->1<=x.links
 one:x.kind=2->x.ino≠1->x.links=1
 top:x.ino=1->x.parent=1
def zst (rk:Int->Nat) (xs:List zn):Prop:=∀ y∈xs,∀ e∈y.es,(zg e.ino xs).kind=2->(zg e.ino xs).parent=y.ino/\rk y.ino<rk e.ino
structure FsR (f:FsV):Prop where
 node:∀ x∈f.xs,zld x
 edge:∃ rk,zst rk f.xs
 fit:(f.xs.length:Int)<=f.maxI/\(qe f.xs:Int)<=f.maxB
 lim:1<=f.maxI/\f.maxI<=1073741824/\0<=f.maxB/\f.maxB<=1073741824
theorem Mt (h:z8 xs) {x y:zn} (hx:x∈xs) (hy:y∈xs) (e:x.ino=y.ino):x=y:=by
 obtain ⟨i,hi,rfl⟩:=WF hx;obtain ⟨j,hj,rfl⟩:=WF hy;have hp:=WV.1 h;rcases Aq i j with q | q | q
 ·have:=hp i j hi hj q;omega
 ·subst q;rfl
 ·have:=hp j i hj hi q;omega
theorem vn (h:z8 xs):(xs.map (·.ino)).Nodup:=by
 rw[List.Nodup,List.pairwise_map];exact List.Pairwise.imp (fun q e=>by omega) h
theorem Vw:(n,p)∈qm xs↔∃ y∈xs,∃ e∈y.es,e.ino=n/\y.ino=p:=by
 unfold qm;rw[Ay];refine exists_congr fun y=>and_congr_right fun hy=>?_;unfold VP;rw[WR];refine exists_congr fun e=>and_congr_right fun he=>?_;rw[Prod.mk.injEq]
theorem zfR (h1:1<=Zt n l) (h:∀ q,(n,q)∈l->q=p):Uq n l=p:=by
 unfold Zt at h1;unfold Uq;cases hq:(l.filter fun p=>p.1==n).getLast? with
 | none=>rw[List.getLast?_eq_none_iff]at hq;rw[hq]at h1;simp at h1
 | some r =>
  obtain ⟨h2,h3⟩:=OC.1 (List.mem_of_getLast? hq);have h3:r.1=n:=by simpa using h3
  show r.2=p;exact h r.2 (by rw[←h3];exact h2)
theorem ziO {es:List z6}:∀ S:List Int,∃ t,HA S es=S++t:=by
 induction es with
 | nil=>exact fun S=>⟨[],by simp[HA]⟩
 | cons e r ih =>
  intro S;obtain ⟨t,h⟩:=ih (YS S e.ino);show ∃ t,HA (YS S e.ino) r=S++t;rw[h];unfold YS;split
  ·exact ⟨t,rfl⟩
  ·exact ⟨e.ino :: t,by simp⟩
theorem kV {xs:List zn} (h3:∀ x∈xs,∀ e∈x.es,zk e.ino xs=true):∀ (m i:Nat) (S:List Int),YI xs S->(∀ j<i,∀ n,S[j]?=some n->∀ e∈(zg n xs).es,e.ino∈S)->xs.length+1<=m+i ->
  (∀ n∈S,n∈Zn xs m i S)/\∀ n∈Zn xs m i S,∀ e∈(zg n xs).es,e.ino∈Zn xs m i S
 | 0,i,S,hS,hc,hm=>by
  have hl:=Z4 hS.nodup hS.has;show (∀ n∈S,n∈S)/\∀ n∈S,∀ e∈(zg n xs).es,e.ino∈S;refine ⟨fun n h=>h,fun n hn e he=>?_⟩;obtain ⟨j,hj,rfl⟩:=WF hn;exact hc j (by omega) _ (Wa hj) e he
 | m+1,i,S,hS,hc,hm=>by
  unfold Zn;cases hg:S[i]? with
  | none =>
   have hi:=List.getElem?_eq_none_iff.1 hg;show (∀ n∈S,n∈S)/\∀ n∈S,∀ e∈(zg n xs).es,e.ino∈S;refine ⟨fun n h=>h,fun n hn e he=>?_⟩;obtain ⟨j,hj,rfl⟩:=WF hn;exact hc j (by omega) _ (Wa hj) e he
  | some n =>
   have hn:=hS.has n (Wf hg);have hi:=(Wd.1 hg).1;have hg':=zi hn;obtain ⟨t,ht⟩:=ziO (es:=(zg n xs).es) S;have hsub:∀ k∈S,k∈HA S (zg n xs).es:=fun k hk=>GX.2 (.inl hk);obtain ⟨r1,r2⟩:=kV h3 m (i+1) (HA S (zg n xs).es) (Ms hS fun e he=>h3 _ hg'.2.1 e he) (fun j hj k hk e he=>by
    rcases Wr j i with hji | hji
    ·have:S[j]?=some k:=by rw[ht,Wu (by omega)]at hk;exact hk
     exact hsub _ (hc j hji k this e he)
    ·have:j=i:=by omega
     subst this;rw[ht,Wu hi,hg]at hk;cases hk;exact GX.2 (.inr ⟨e,he,rfl⟩)) (by omega)
   exact ⟨fun k hk=>r1 k (hsub k hk),r2⟩
theorem zag (h:1<=Zt n l):∃ p,(n,p)∈l:=by
 unfold Zt at h;obtain ⟨r,hr⟩:=List.exists_mem_of_length_pos (l:=l.filter fun p=>p.1==n) (by omega);obtain ⟨h1,h2⟩:=OC.1 hr;have h2:r.1=n:=by simpa using h2
 exact ⟨r.2,by rw[←h2];exact h1⟩
theorem FsR.links (hi:FsI f) {x:zn} (hx:x∈f.xs):x.links=(Zt x.ino (qm f.xs):Int):=by rw[Qr];exact hi.links x hx
theorem Nm (hi:FsI f) {y:zn} (hy:y∈f.xs) {e:z6} (he:e∈y.es):y.kind=2:=by
 by_cases h:y.kind=2
 ·exact h
 ·rw[hi.file y hy h]at he;cases he
theorem Xa (hi:FsI f) {x:zn} (hx:x∈f.xs):zg x.ino f.xs=x:=by
 have h:=Yk hx;have h2:=zi h;exact Mt hi.rises h2.2.1 hx h2.2.2
theorem FsR.come (hi:FsI f) (h:FsR f) {S:List Int} (h1:(1:Int)∈S) (hc:∀ n∈S,∀ e∈(zg n f.xs).es,e.ino∈S):∀ n,zk n f.xs=true->n∈S:=by
 obtain ⟨rk,hr⟩:=h.edge;have dirs:∀ (k:Nat) (n:Int),rk n<=k->zk n f.xs=true->(zg n f.xs).kind=2->n∈S:=by
  intro k
  induction k with
  | zero =>
   intro n hk hn hd;by_cases h0:n=1
   ·rw[h0];exact h1
   obtain ⟨g1,g2,g3⟩:=zi hn;have hl:=(h.node _ g2).named (by rw[g3];exact h0);rw[FsR.links hi g2,g3]at hl;obtain ⟨p,hp⟩:=zag (n:=n) (l:=qm f.xs) (by omega);obtain ⟨y,hy,e,he,q1,q2⟩:=Vw.1 hp;have:=(hr y hy e he (by rw[q1];exact hd)).2;rw[q1]at this;omega
  | succ k ih =>
   intro n hk hn hd;by_cases h0:n=1
   ·rw[h0];exact h1
   obtain ⟨g1,g2,g3⟩:=zi hn;have hl:=(h.node _ g2).named (by rw[g3];exact h0);rw[FsR.links hi g2,g3]at hl;obtain ⟨p,hp⟩:=zag (n:=n) (l:=qm f.xs) (by omega);obtain ⟨y,hy,e,he,q1,q2⟩:=Vw.1 hp;have hlt:=(hr y hy e he (by rw[q1];exact hd)).2;rw[q1]at hlt;have hs:=Xa hi hy;have:=ih y.ino (by omega) (Yk hy) (by rw[hs];exact Nm hi hy he);rw[←q1];exact hc y.ino this e (by rw[hs];exact he)
 intro n hn;by_cases h0:n=1
 ·rw[h0];exact h1
 obtain ⟨g1,g2,g3⟩:=zi hn;have hl:=(h.node _ g2).named (by rw[g3];exact h0);rw[FsR.links hi g2,g3]at hl;obtain ⟨p,hp⟩:=zag (n:=n) (l:=qm f.xs) (by omega);obtain ⟨y,hy,e,he,q1,q2⟩:=Vw.1 hp;have hs:=Xa hi hy;have:=dirs _ y.ino (Wb _) (Yk hy) (by rw[hs];exact Nm hi hy he);rw[←q1];exact hc y.ino this e (by rw[hs];exact he)
theorem uT {es:List z6} (hR:JN es) (h1:∀ e∈es,may e.name=true) (h2:∀ e∈es,1<=e.ino):Xl es:=fun i h =>
 ⟨h1 _ (Wx h),h2 _ (Wx h),fun h0=>WV.1 hR (i-1) i (by omega) h (by omega)⟩
theorem FsR.check (hi:FsI f) (h:FsR f) (hn:f.next<=1099511627776):Jx f=0:=by
 have h1:Jv f:=⟨h.lim.1,h.lim.2.1,h.lim.2.2.1,h.lim.2.2.2,hn,hi.ino,hi.rises,hi.root,hi.base⟩;have h2:YX f:=fun x hx=>⟨hi.kind x hx,fun hk=>⟨hi.file x hx hk,(h.node x hx).par hk⟩,fun hk=>⟨(h.node x hx).bare hk,uT (hi.es x hx) (h.node x hx).nam fun e he=>by
  have:=hi.led x hx e he;have g:=zi this;have:=(hi.ino _ g.2.1).1;rw[g.2.2]at this;exact this⟩,(h.node x hx).lnk⟩
 have h3:YL f:=hi.led;obtain ⟨rk,hr⟩:=h.edge;have h4:Y5 f:=fun x hx=>by
  have hl:=FsR.links hi hx;refine ⟨hl,?_⟩;by_cases h0:x.ino=1
  ·rw[if_pos h0,h0];exact ⟨by rw[Qr];exact hi.bare,(h.node x hx).top h0⟩
  ·rw[if_neg h0];have hk:=(h.node x hx).named h0;refine ⟨by omega,fun hd=>?_⟩;have ho:=(h.node x hx).one hd h0;refine ⟨by omega,(zfR (by omega) fun q hq=>?_).symm⟩;obtain ⟨y,hy,e,he,q1,q2⟩:=Vw.1 hq;have:=(hr y hy e he (by rw[q1,Xa hi hx];exact hd)).1;rw[q1,Xa hi hx]at this;rw[←q2,this]
 have h5:Q5 f:=by
  have hS:YI f.xs [1]:=⟨by simp,fun n hn=>by rw[Ob.1 hn];exact hi.root⟩;obtain ⟨r1,r2⟩:=kV hi.led (f.xs.length+1) 0 [1] hS (fun j hj=>absurd hj (OK _)) (by omega);have hok:=(N7 hi.led (f.xs.length+1) 0 [1] hS (fun n hn=>by rw[Ob.1 hn];exact ⟨0,.root⟩)).1;have hall:=h.come hi (r1 1 (by simp)) r2;have q1:=Z4 hok.nodup hok.has;have q2:=UG (S:=f.xs.map (·.ino)) (vn hi.rises) fun n hn=>hall n (Nt.2 hn);rw[We]at q2;exact Nat.le_antisymm q1 q2
 unfold Jx;rw[if_pos h1,if_pos h2,if_pos h3,if_pos h4,if_pos h5,if_pos (show HH f from h.fit)]
open Classical in
theorem zeL (h:okM f):FsR f:=by
 obtain ⟨h0,h1,h2,h3,h4,h5,h6⟩:=qJ h;have hi:=Ho h.2;refine ⟨fun x hx=>?_,?_,h6,h1.1,h1.2.1,h1.2.2.1,h1.2.2.2.1⟩
 ·obtain ⟨a1,a2,a3,a4⟩:=h2 x hx;obtain ⟨b1,b2⟩:=h4 x hx;refine ⟨fun hk=>(a2 hk).2,fun hk=>(a3 hk).1,fun e he=>?_,a4,fun hn=>?_,fun hk hn=>?_,fun hn=>?_⟩
  ·obtain ⟨i,hi',rfl⟩:=WF he;exact ((a3 (Nm hi hx he)).2 i hi').1
  ·rw[if_neg hn]at b2;rw[b1];omega
  ·rw[if_neg hn]at b2;rw[b1,(b2.2 hk).1];rfl
  ·rw[if_pos hn]at b2;exact b2.2
 ·refine ⟨fun n=>if hd:∃ k,Dep f.xs k n then hd.choose else 0,fun y hy e he hk=>?_⟩;have hs:=Xa hi hy;have hh:=hi.led y hy e he;have g:=zi hh;have hyk:=Nm hi hy he;have hey:e∈(zg y.ino f.xs).es:=by rw[hs];exact he
  have hne:e.ino≠1:=Jh h (Yk hy) hey;constructor
  ·have b:=(h4 _ g.2.1).2;rw[g.2.2,if_neg hne]at b;obtain ⟨c1,c2⟩:=b.2 hk;rw[c2];exact zfR (by omega) fun q hq=>(vq (Vw.2 ⟨y,hy,e,he,rfl,rfl⟩) hq c1).symm
  ·obtain ⟨k,hd⟩:=uK h (Yk hy);have hd2:=Dep.step hd (Yk hy) hey;have e1:∃ k,Dep f.xs k y.ino:=⟨k,hd⟩;have e2:∃ k,Dep f.xs k e.ino:=⟨k+1,hd2⟩;show (if hd:∃ k,Dep f.xs k y.ino then hd.choose else 0)<if hd:∃ k,Dep f.xs k e.ino then hd.choose else 0;rw[dif_pos e1,dif_pos e2,VN h _ _ _ e1.choose_spec hd (Yk hy) (by rw[hs];exact hyk),VN h _ _ _ e2.choose_spec hd2 hh hk];exact Nat.lt_succ_self k
end
section
def bN (x:zn):Nat:=if x.kind=1 then x.data.length else 0
theorem Ys:∀ xs:List zn,qe xs=Me bN xs
 | []=>rfl
 | x :: r=>by
  have ih:=Ys r;unfold qe Me at ih ⊢;rw[Wm,OX,←ih,Ab];unfold bN;by_cases h:x.kind=1<;>simp[h]
theorem Qp (hR:z8 xs) {x:zn} (hh:zk x.ino xs=true):qe (qv x xs)+bN (zg x.ino xs)=qe xs+bN x:=by
 have:=UH bN (x:=x) hR;rw[(zi hh).1]at this;rw[Ys,Ys];exact this
theorem UP (hR:z8 xs) {x:zn} (hh:zk x.ino xs=false):qe (qv x xs)=qe xs+bN x:=by
 have:=UH bN (x:=x) hR;rw[(JW hh).1]at this;rw[Ys,Ys];exact this
theorem zdL (hR:z8 xs) (n:Int):qe (qh n xs)<=qe xs:=by
 have:=ZT bN (n:=n) hR;rw[Ys,Ys];omega
theorem Xs (hR:z8 xs) {n:Int} {F:List z6->List z6} (hh:zk n xs=true):qe (qr n F xs)=qe xs:=by
 have hg:=zi hh;have:=Qp hR (x:=qD (zg n xs) (F (zg n xs).es)) (by show zk (zg n xs).ino xs=true;rw[hg.2.2];exact hh);have e:bN (zg (qD (zg n xs) (F (zg n xs).es)).ino xs)=bN (qD (zg n xs) (F (zg n xs).es)):=by
  show bN (zg (zg n xs).ino xs)=bN (zg n xs);rw[hg.2.2]
 rw[e]at this;exact Nat.add_right_cancel this
theorem zmh {x:zn} (hR:z8 xs) (hh:zk x.ino xs=false):(qv x xs).length=xs.length+1:=by rw[←yM hR hh];simp;have:=ze3 x.ino xs;omega
theorem zfQ (n:Int) (xs:List zn):(qh n xs).length<=xs.length:=OH _ _
theorem zld.turn {x:zn} (h:zld x) {es:List z6} (he:∀ e∈es,may e.name=true):zld (qD x es):=⟨h.par,h.bare,he,h.lnk,h.named,h.one,h.top⟩
theorem jM {m:Int} {F:List z6->List z6} (hh:zk n xs=true):(zg m (qr n F xs)).kind=(zg m xs).kind/\(zg m (qr n F xs)).parent=(zg m xs).parent/\(zg m (qr n F xs)).links=(zg m xs).links:=by
 rw[JY hh];split
 ·subst_vars;exact ⟨rfl,rfl,rfl⟩
 ·exact ⟨rfl,rfl,rfl⟩
theorem FsR.like {g:FsV} (h:FsR f) (hN:∀ z∈g.xs,zld z) (hE:∀ z∈g.xs,∀ e∈z.es,(zg e.ino g.xs).kind=2->∃ y∈f.xs,y.ino=z.ino/\e∈y.es/\(zg e.ino f.xs).kind=2/\(zg e.ino g.xs).parent=(zg e.ino f.xs).parent)
  (h1:g.maxI=f.maxI) (h2:g.maxB=f.maxB) (hl:g.xs.length<=f.xs.length) (hb:(qe g.xs:Int)<=f.maxB):FsR g:=by
 obtain ⟨rk,hr⟩:=h.edge;refine ⟨hN,⟨rk,fun z hz e he hk=>?_⟩,?_,by rw[h1,h2];exact h.lim⟩
 ·obtain ⟨y,hy,q1,q2,q3,q4⟩:=hE z hz e he hk;have:=hr y hy e q2 q3;rw[q4,←q1];exact this
 ·have:=h.fit;rw[h1,h2];omega
theorem zra (hi:FsI f) (h:FsR f) {s:zO} (hs:YT f s) (hm:may s.name=true) {k:Int} {t:Lz} (hk:k=1∨k=2∨k=3) (hr:Yp f 1 (if k=1 then (t.length:Int) else 0)=true) (h2:k=2->t = [])
  (h3:k=3->1<=t.length/\t.length<=4095/\∀ b∈t,b≠0):FsR (Mj f s k t):=by
 obtain ⟨n1,n2⟩:=Na hi;have hd:=zi hs.has;have hlt:=vp hi;have hdn:s.dir≠f.next:=fun e=>by have:=hs.has;rw[e,n1]at this;cases this
 have hR1:z8 (qr s.dir (zW s.name f.next) f.xs):=qf hi.rises;have hn1:zk f.next (qr s.dir (zW s.name f.next) f.xs)=false:=by rw[z7 hs.has];exact n1
 obtain ⟨rk,hrk⟩:=h.edge;have hmem:∀ {z:zn},z∈(Mj f s k t).xs->z=⟨f.next,k,1,t,if k=2 then s.dir else 0,[]⟩∨z=qD (zg s.dir f.xs) (zW s.name f.next (zg s.dir f.xs).es)∨(z∈f.xs/\z.ino≠s.dir):=fun {z} hz=>by
  rcases qB.1 hz with rfl | ⟨hz,_⟩
  ·exact .inl rfl
  ·exact .inr ((qC hs.has).1 hz)
 have hgot:∀ m,m≠f.next->(zg m (Mj f s k t).xs).kind=(zg m f.xs).kind/\(zg m (Mj f s k t).xs).parent=(zg m f.xs).parent:=fun m hm=>by
  have e:zg m (Mj f s k t).xs=zg m (qr s.dir (zW s.name f.next) f.xs):=by
   show zg m (qv _ _)=_;rw[qV,if_neg (fun e:f.next=m=>hm e.symm)]
  rw[e];exact ⟨(jM hs.has).1,(jM hs.has).2.1⟩
 have hgn:zg f.next (Mj f s k t).xs=⟨f.next,k,1,t,if k=2 then s.dir else 0,[]⟩:=by
  show zg _ (qv _ _)=_;rw[qV,if_pos rfl]
 refine ⟨fun z hz=>?_,⟨fun n=>if n=f.next then rk s.dir+1 else rk n,fun y hy e he hke=>?_⟩,?_,h.lim⟩
 ·rcases hmem hz with rfl | rfl | ⟨hz,_⟩
  ·exact ⟨fun q=>if_neg q,h2,fun e he=>(by cases he),h3,fun _=>Ao 1,fun _ _=>rfl,fun q=>by have q:f.next=1:=q;omega⟩
  ·exact (h.node _ hd.2.1).turn fun e he=>by
    rcases Yi he with rfl | he
    ·exact hm
    ·exact (h.node _ hd.2.1).nam e he
  ·exact h.node z hz
 ·have old:∀ y0∈f.xs,e∈y0.es->(zg e.ino (Mj f s k t).xs).parent=y0.ino/\(if y0.ino=f.next then rk s.dir+1 else rk y0.ino)<(if e.ino=f.next then rk s.dir+1 else rk e.ino):=fun y0 hy0 he0=>by
   have hne:=n2 y0 hy0 e he0;obtain ⟨g1,g2⟩:=hgot e.ino hne;rw[g1]at hke;have:=hrk y0 hy0 e he0 hke;rw[g2,if_neg hne,if_neg (fun q=>by have:=(hi.ino y0 hy0).2;omega)];exact this
  rcases hmem hy with rfl | rfl | ⟨hy,_⟩
  ·cases he
  ·rcases Yi he with rfl | he
   ·rw[hgn]at hke ⊢;have hke:k=2:=hke;show (if k=2 then s.dir else 0)=(zg s.dir f.xs).ino/\_;rw[if_pos hke,hd.2.2];refine ⟨rfl,?_⟩;show (if s.dir=f.next then _ else rk s.dir)<if f.next=f.next then _ else _;rw[if_neg hdn,if_pos rfl];exact Nat.lt_succ_self _
   ·exact old (zg s.dir f.xs) hd.2.1 he
  ·exact old y hy he
 ·unfold Yp at hr;simp only[Wt,W8]at hr;have hl:(Mj f s k t).xs.length=f.xs.length+1:=by
   show (qv _ _).length=_;rw[zmh hR1 hn1,Jc hi.rises hs.has]
  have hb:qe (Mj f s k t).xs=qe f.xs+bN ⟨f.next,k,1,t,if k=2 then s.dir else 0,[]⟩:=by
   show qe (qv _ _)=_;rw[UP hR1 hn1,Xs hi.rises hs.has]
  rw[hl,hb];show ((f.xs.length+1:Nat):Int)<=f.maxI/\((qe f.xs+(if k=1 then t.length else 0):Nat):Int)<=f.maxB;split at hr<;>(rename_i hq;simp only[hq,if_true,W2];omega)
theorem zpl (hi:FsI f) (h:FsR f) {i:Int} (hh:zk i f.xs=true) (hk:(zg i f.xs).kind=1) {t:Lz} (hr:Yp f 0 ((t.length:Int)-(zg i f.xs).data.length)=true):FsR (X4 f i t):=by
 have hx:=zi hh;have hhi:zk ({ zg i f.xs with data:=t }:zn).ino f.xs=true:=by show zk (zg i f.xs).ino f.xs=true;rw[hx.2.2];exact hh
 have hn:=h.node _ hx.2.1;have hgot:∀ m,(zg m (X4 f i t).xs).kind=(zg m f.xs).kind/\(zg m (X4 f i t).xs).parent=(zg m f.xs).parent:=fun m=>by
  show (zg m (qv _ _)).kind=_/\_;unfold X4;simp only[qV,hx.2.2];split
  ·subst_vars;exact ⟨rfl,rfl⟩
  ·exact ⟨rfl,rfl⟩
 unfold Yp at hr;simp only[Wt,W8]at hr;refine h.like (fun z hz=>?_) (fun z hz e he hke=>?_) rfl rfl ?_ ?_
 ·rcases qB.1 hz with rfl | ⟨hz,_⟩
  ·exact ⟨hn.par,fun q=>by have q:(zg i f.xs).kind=2:=q;omega,hn.nam,fun q=>by have q:(zg i f.xs).kind=3:=q;omega,hn.named,hn.one,hn.top⟩
  ·exact h.node z hz
 ·rw[(hgot _).1]at hke;rcases qB.1 hz with rfl | ⟨hz,_⟩
  ·exact ⟨_,hx.2.1,rfl,he,hke,(hgot _).2⟩
  ·exact ⟨z,hz,rfl,he,hke,(hgot _).2⟩
 ·show (qv _ _).length<=_;rw[JI hi.rises hhi];exact Wb _
 ·have:=Qp hi.rises hhi;have e1:bN (zg ({ zg i f.xs with data:=t }:zn).ino f.xs)=(zg i f.xs).data.length:=by
   show bN (zg (zg i f.xs).ino f.xs)=_;rw[hx.2.2];unfold bN;rw[if_pos hk]
  have e2:bN { zg i f.xs with data:=t }=t.length:=by unfold bN;rw[if_pos hk]
  rw[e1,e2]at this;show (qe (qv _ _):Int)<=_;omega
theorem zoI (hi:FsI f) (h:FsR f) {s:zO} (hs:YT f s) (hm:may s.name=true) {i:Int} (hh:zk i f.xs=true) (hk:(zg i f.xs).kind≠2):FsR (ZW f s i):=by
 have hd:=zi hs.has;have hx:=zi hh;have hn:=h.node _ hx.2.1;have hR1:z8 (qr s.dir (zW s.name i) f.xs):=qf hi.rises;have hhi:zk ({ zg i f.xs with links:=(zg i f.xs).links+1 }:zn).ino (qr s.dir (zW s.name i) f.xs)=true:=by rw[z7 hs.has];show zk (zg i f.xs).ino f.xs=true;rw[hx.2.2];exact hh
 have hgot:∀ m,(zg m (ZW f s i).xs).kind=(zg m f.xs).kind/\(zg m (ZW f s i).xs).parent=(zg m f.xs).parent:=fun m=>by
  unfold ZW;simp only[qV,hx.2.2];split
  ·subst_vars;exact ⟨rfl,rfl⟩
  ·exact ⟨(jM hs.has).1,(jM hs.has).2.1⟩
 refine h.like (fun z hz=>?_) (fun z hz e he hke=>?_) rfl rfl ?_ ?_
 ·rcases qB.1 hz with rfl | ⟨hz,_⟩
  ·exact ⟨hn.par,hn.bare,hn.nam,hn.lnk,fun q=>by have:=hn.named q;show 1<=(zg i f.xs).links+1;omega,fun q=>absurd q hk,hn.top⟩
  ·rcases (qC hs.has).1 hz with rfl | ⟨hz,_⟩
   ·exact (h.node _ hd.2.1).turn fun e he=>by
     rcases Yi he with rfl | he
     ·exact hm
     ·exact (h.node _ hd.2.1).nam e he
   ·exact h.node z hz
 ·rw[(hgot _).1]at hke;rcases qB.1 hz with rfl | ⟨hz,_⟩
  ·exact ⟨_,hx.2.1,rfl,he,hke,(hgot _).2⟩
  ·rcases (qC hs.has).1 hz with rfl | ⟨hz,_⟩
   ·rcases Yi he with rfl | he
    ·exact absurd hke hk
    ·exact ⟨_,hd.2.1,rfl,he,hke,(hgot _).2⟩
   ·exact ⟨z,hz,rfl,he,hke,(hgot _).2⟩
 ·show (qv _ _).length<=_;rw[JI hR1 hhi,Jc hi.rises hs.has];exact Wb _
 ·have:=Qp hR1 hhi;have e1:bN (zg ({ zg i f.xs with links:=(zg i f.xs).links+1 }:zn).ino (qr s.dir (zW s.name i) f.xs))=bN { zg i f.xs with links:=(zg i f.xs).links+1 }:=by
   show bN (zg (zg i f.xs).ino _)=_;rw[hx.2.2,JY hs.has];split
   ·rename_i hq;exact absurd (by rw[←hq];exact hs.kind) hk
   ·rfl
  rw[e1,Xs hi.rises hs.has]at this;show (qe (qv _ _):Int)<=_;have:=h.fit.2;omega
theorem zk6 (hi:FsI f) (h:FsR f) {s:zO} (hs:zX f s) (he:(zg s.ino f.xs).es = []):FsR (zI f s):=by
 have hok:=U8 hi hs he;have hd:=zi hs.has;have hh:=zX.ino hi hs;have hx:=zi hh;have hn:=h.node _ hx.2.1;have hne:s.dir≠s.ino:=fun e=>by
  have:=(ql hs.there).2;rw[e,he]at this;cases this
 have hr1:=QB hi hs;have hR1:z8 (qr s.dir (zj s.name) f.xs):=qf hi.rises;have hdn:zld (qD (zg s.dir f.xs) (zj s.name (zg s.dir f.xs).es)):=(h.node _ hd.2.1).turn fun e he=>(h.node _ hd.2.1).nam e (je he).1;by_cases hl:(zg s.ino f.xs).links-1=0
 ·have e0:zI f s = { f with xs:=qh s.ino (qr s.dir (zj s.name) f.xs) }:=by unfold zI;rw[if_pos hl]
  rw[e0]at hok ⊢;refine h.like (fun z hz=>?_) (fun z hz e he hke=>?_) rfl rfl ?_ ?_
  ·rcases (qC hs.has).1 (Xo.1 hz).1 with rfl | ⟨hz,_⟩
   ·exact hdn
   ·exact h.node z hz
  ·have hee:e.ino≠s.ino:=fun q=>by
    have:=hok.led z hz e he;rw[Qw,q]at this;simp at this
   have hg:zg e.ino (qh s.ino (qr s.dir (zj s.name) f.xs))=zg e.ino (qr s.dir (zj s.name) f.xs):=by rw[Hs,if_neg hee]
   show ∃ y∈f.xs,y.ino=z.ino/\e∈y.es/\_/\(zg e.ino (qh s.ino _)).parent=_;have hke:(zg e.ino (qh s.ino (qr s.dir (zj s.name) f.xs))).kind=2:=hke;rw[hg,(jM hs.has).1]at hke;rw[hg,(jM hs.has).2.1];rcases (qC hs.has).1 (Xo.1 hz).1 with rfl | ⟨hz,_⟩
   ·exact ⟨_,hd.2.1,rfl,(je he).1,hke,rfl⟩
   ·exact ⟨z,hz,rfl,he,hke,rfl⟩
  ·exact WM (zfQ _ _) (by rw[Jc hi.rises hs.has];exact Wb _)
  ·have:=zdL hR1 s.ino;rw[Xs hi.rises hs.has]at this;have:=h.fit.2;show (qe (qh _ _):Int)<=_;omega
 ·have e0:zI f s = { f with xs:=qv { zg s.ino f.xs with links:=(zg s.ino f.xs).links-1 } (qr s.dir (zj s.name) f.xs) }:=by unfold zI;rw[if_neg hl]
  rw[e0]at hok ⊢;have hhi:zk ({ zg s.ino f.xs with links:=(zg s.ino f.xs).links-1 }:zn).ino (qr s.dir (zj s.name) f.xs)=true:=by rw[z7 hs.has];show zk (zg s.ino f.xs).ino f.xs=true;rw[hx.2.2];exact hh
  have hgot:∀ m,(zg m (qv { zg s.ino f.xs with links:=(zg s.ino f.xs).links-1 } (qr s.dir (zj s.name) f.xs))).kind=(zg m f.xs).kind/\(zg m (qv { zg s.ino f.xs with links:=(zg s.ino f.xs).links-1 } (qr s.dir (zj s.name) f.xs))).parent=(zg m f.xs).parent:=fun m=>by
   simp only[qV,hx.2.2];split
   ·subst_vars;exact ⟨rfl,rfl⟩
   ·exact ⟨(jM hs.has).1,(jM hs.has).2.1⟩
  have hnm:=hn.named (by rw[hx.2.2];exact hr1);refine h.like (fun z hz=>?_) (fun z hz e he hke=>?_) rfl rfl ?_ ?_
  ·rcases qB.1 hz with rfl | ⟨hz,_⟩
   ·exact ⟨hn.par,hn.bare,hn.nam,hn.lnk,fun q=>by show 1<=(zg s.ino f.xs).links-1;omega,fun q1 q2=>by have:=hn.one q1 q2;omega,hn.top⟩
   ·rcases (qC hs.has).1 hz with rfl | ⟨hz,_⟩
    ·exact hdn
    ·exact h.node z hz
  ·have hke:(zg e.ino (qv { zg s.ino f.xs with links:=(zg s.ino f.xs).links-1 } (qr s.dir (zj s.name) f.xs))).kind=2:=hke;rw[(hgot _).1]at hke;rcases qB.1 hz with rfl | ⟨hz,_⟩
   ·exact ⟨_,hx.2.1,rfl,he,hke,(hgot _).2⟩
   ·rcases (qC hs.has).1 hz with rfl | ⟨hz,_⟩
    ·exact ⟨_,hd.2.1,rfl,(je he).1,hke,(hgot _).2⟩
    ·exact ⟨z,hz,rfl,he,hke,(hgot _).2⟩
  ·show (qv _ _).length<=_;rw[JI hR1 hhi,Jc hi.rises hs.has];exact Wb _
  ·have:=Qp hR1 hhi;have e1:bN (zg ({ zg s.ino f.xs with links:=(zg s.ino f.xs).links-1 }:zn).ino (qr s.dir (zj s.name) f.xs))=bN { zg s.ino f.xs with links:=(zg s.ino f.xs).links-1 }:=by
    show bN (zg (zg s.ino f.xs).ino _)=_;rw[hx.2.2,JY hs.has,if_neg hne]
    rfl
   rw[e1,Xs hi.rises hs.has]at this;show (qe (qv _ _):Int)<=_;have:=h.fit.2;omega
end
section
inductive Bel (xs:List zn) (x:Int):Int->Prop
 | refl:Bel xs x x
 | step {y n:Int}:Bel xs x y->zk y xs=true->(∃ e∈(zg y xs).es,e.ino=n)->Bel xs x n
def zrz (a b:zO) (y:zn) (es:List z6):Prop:=∀ e∈es,(e=⟨b.name,a.ino⟩/\y.ino=b.dir)∨(e∈y.es/\(y.ino=a.dir->e.name≠a.name))
theorem zml (hi:FsI f) {a b:zO} (ha:zX f a) (hb:YT f b) {z:zn} (hz:z∈qr b.dir (zW b.name a.ino) (qr a.dir (zj a.name) f.xs)):∃ y∈f.xs,∃ es,z=qD y es/\zrz a b y es:=by
 have hda:=zi ha.has;have hdb:=zi hb.has;have hb1:zk b.dir (qr a.dir (zj a.name) f.xs)=true:=by rw[z7 ha.has];exact hb.has
 have g1:∀ {z:zn},z∈qr a.dir (zj a.name) f.xs->∃ y∈f.xs,∃ es,z=qD y es/\∀ e∈es,e∈y.es/\(y.ino=a.dir->e.name≠a.name):=fun {z} hz=>by
  rcases (qC ha.has).1 hz with rfl | ⟨hz,hne⟩
  ·exact ⟨_,hda.2.1,_,rfl,fun e he=>⟨(je he).1,fun _=>(je he).2⟩⟩
  ·exact ⟨z,hz,z.es,rfl,fun e he=>⟨he,fun q=>absurd q hne⟩⟩
 rcases (qC hb1).1 hz with rfl | ⟨hz,hne⟩
 ·obtain ⟨y,hy,es,e1,e2⟩:=g1 (zi hb1).2.1;have hyb:y.ino=b.dir:=by
   have:=(zi hb1).2.2;rw[e1]at this;exact this
  refine ⟨y,hy,zW b.name a.ino es,by rw[e1],fun e he=>?_⟩;rcases Yi he with rfl | he
  ·exact .inl ⟨rfl,hyb⟩
  ·exact .inr (e2 e he)
 ·obtain ⟨y,hy,es,e1,e2⟩:=g1 hz;exact ⟨y,hy,es,e1,fun e he=>.inr (e2 e he)⟩
theorem zf0 {a b:zO} (ha:zX f a) (hb:YT f b) (m:Int):(zg m (qr b.dir (zW b.name a.ino) (qr a.dir (zj a.name) f.xs))).kind=(zg m f.xs).kind/\(zg m (qr b.dir (zW b.name a.ino) (qr a.dir (zj a.name) f.xs))).parent=(zg m f.xs).parent:=by
 have hb1:zk b.dir (qr a.dir (zj a.name) f.xs)=true:=by rw[z7 ha.has];exact hb.has
 obtain ⟨q1,q2,_⟩:=jM (m:=m) (F:=zW b.name a.ino) hb1;obtain ⟨q3,q4,_⟩:=jM (m:=m) (F:=zj a.name) ha.has;exact ⟨q1.trans q3,q2.trans q4⟩
theorem za5 (hi:FsI f) (h:FsR f) {a:zO} (ha:zX f a) (hk:(zg a.ino f.xs).kind=2) {y:zn} (hy:y∈f.xs) {e:z6} (he:e∈y.es) (hn:y.ino=a.dir->e.name≠a.name):e.ino≠a.ino:=fun q=>by
 have hh:=zX.ino hi ha;have hx:=zi hh;have hd:=zi ha.has;have hl:=(h.node _ hx.2.1).one hk (by rw[hx.2.2];exact QB hi ha);have hlk:=hi.links _ hx.2.1;rw[hx.2.2,hl]at hlk;have hc:=Zm (m:=a.ino) (F:=zj a.name) hi.rises ha.has;have hw:Yb a.ino (zg a.dir f.xs)=Yb a.ino (qD (zg a.dir f.xs) (zj a.name (zg a.dir f.xs).es))+if a.ino=a.ino then 1 else 0:=Qy (m:=a.ino) (i:=a.ino) (x:=zg a.dir f.xs) (hi.es (zg a.dir f.xs) hd.2.1) ha.there;rw[if_pos rfl]at hw;have h0:J1 a.ino (qr a.dir (zj a.name) f.xs)=0:=by omega
 by_cases hya:y.ino=a.dir
 ·have e1:y=zg a.dir f.xs:=Mt hi.rises hy hd.2.1 (by rw[hd.2.2];exact hya);refine ZD h0 _ ((qC ha.has).2 (.inl rfl)) e ?_ q;exact ZJ.2 ⟨by rw[←e1];exact he,hn hya⟩
 ·exact ZD h0 y ((qC ha.has).2 (.inr ⟨hy,hya⟩)) e he q
open Classical in
theorem zrl (hi:FsI f) (h:FsR f) {a b:zO} (ha:zX f a) (hb:YT f b) (hm:may b.name=true) (hnb:(zg a.ino f.xs).kind=2->¬Bel f.xs a.ino b.dir):FsR (QY f a b):=by
 have hh:=zX.ino hi ha;have hx:=zi hh;have hr1:=QB hi ha;have hb1:zk b.dir (qr a.dir (zj a.name) f.xs)=true:=by rw[z7 ha.has];exact hb.has
 have hR1:z8 (qr a.dir (zj a.name) f.xs):=qf hi.rises;have hR2:z8 (qr b.dir (zW b.name a.ino) (qr a.dir (zj a.name) f.xs)):=qf hR1;have hlen:(qr b.dir (zW b.name a.ino) (qr a.dir (zj a.name) f.xs)).length=f.xs.length:=by rw[Jc hR1 hb1,Jc hi.rises ha.has]
 have hbyt:qe (qr b.dir (zW b.name a.ino) (qr a.dir (zj a.name) f.xs))=qe f.xs:=by rw[Xs hR1 hb1,Xs hi.rises ha.has]
 have hha:zk a.ino (qr b.dir (zW b.name a.ino) (qr a.dir (zj a.name) f.xs))=true:=by rw[z7 hb1,z7 ha.has];exact hh
 have hgm:=zf0 ha hb;have hmm:∀ {z:zn},z∈qr b.dir (zW b.name a.ino) (qr a.dir (zj a.name) f.xs)->∃ y∈f.xs,∃ es,z=qD y es/\zrz a b y es:=zml hi ha hb;have hnode:∀ {y:zn} {es:List z6},y∈f.xs->zrz a b y es->zld (qD y es):=fun {y es} hy he=>(h.node y hy).turn fun e hee=>by
  rcases he e hee with ⟨rfl,_⟩ | ⟨q,_⟩
  ·exact hm
  ·exact (h.node y hy).nam e q
 unfold QY;simp only;generalize qr b.dir (zW b.name a.ino) (qr a.dir (zj a.name) f.xs)=g at hR2 hlen hbyt hha hgm hmm;have hfit:=h.fit;by_cases hk:(zg a.ino f.xs).kind=2
 ·rw[if_pos (show (zg a.ino g).kind=2 from (hgm a.ino).1.trans hk)];have hnb:=hnb hk;have hxa:=zi hha;have hhi:zk ({ zg a.ino g with parent:=b.dir }:zn).ino g=true:=by show zk (zg a.ino g).ino g=true;rw[hxa.2.2];exact hha
  have hgot:∀ m,(zg m (qv { zg a.ino g with parent:=b.dir } g)).kind=(zg m f.xs).kind/\(zg m (qv { zg a.ino g with parent:=b.dir } g)).parent=if m=a.ino then b.dir else (zg m f.xs).parent:=fun m=>by
   simp only[qV,hxa.2.2];by_cases hq:a.ino=m
   ·rw[if_pos hq,if_pos hq.symm];subst hq;exact ⟨(hgm a.ino).1,rfl⟩
   ·rw[if_neg hq,if_neg (fun q=>hq q.symm)];exact hgm m
  have hmem:∀ {z:zn},z∈qv { zg a.ino g with parent:=b.dir } g->∃ y∈f.xs,∃ es,z.ino=y.ino/\z.es=es/\zrz a b y es/\zld z:=fun {z} hz=>by
   rcases qB.1 hz with rfl | ⟨hz,_⟩
   ·obtain ⟨y,hy,es,e1,e2⟩:=hmm hxa.2.1;refine ⟨y,hy,es,by rw[e1],by rw[e1],e2,?_⟩;have hn:=hnode hy e2;rw[←e1]at hn;have hka:(zg a.ino g).kind=2:=by rw[(hgm a.ino).1];exact hk
    exact ⟨fun q=>absurd hka q,hn.bare,hn.nam,hn.lnk,hn.named,hn.one,fun q=>by have q:(zg a.ino g).ino=1:=q;rw[hxa.2.2]at q;exact absurd q hr1⟩
   ·obtain ⟨y,hy,es,e1,e2⟩:=hmm hz;exact ⟨y,hy,es,by rw[e1],by rw[e1],e2,by rw[e1];exact hnode hy e2⟩
  obtain ⟨rk,hrk⟩:=h.edge;refine ⟨fun z hz=>(hmem hz).choose_spec.2.choose_spec.2.2.2,⟨fun n=>if Bel f.xs a.ino n then rk n+rk b.dir+1 else rk n,fun z hz e he hke=>?_⟩,?_,h.lim⟩
  ·obtain ⟨y,hy,es,e1,e2,e3,_⟩:=hmem hz;have hke:(zg e.ino (qv { zg a.ino g with parent:=b.dir } g)).kind=2:=hke;rw[(hgot _).1]at hke;show (zg e.ino (qv { zg a.ino g with parent:=b.dir } g)).parent=z.ino/\(if Bel f.xs a.ino z.ino then _ else _)<(if Bel f.xs a.ino e.ino then _ else _);rw[(hgot _).2,e1];rcases e3 e (by rw[←e2];exact he) with ⟨rfl,hyb⟩ | ⟨hey,hna⟩
   ·rw[hyb,if_neg hnb];show (if a.ino=a.ino then _ else _)=_/\_<(if Bel f.xs a.ino a.ino then rk a.ino+rk b.dir+1 else _);rw[if_pos rfl,if_pos Bel.refl];exact ⟨rfl,by omega⟩
   ·have hne:=za5 hi h ha hk hy hey hna;obtain ⟨p1,p2⟩:=hrk y hy e hey hke;rw[if_neg hne];refine ⟨p1,?_⟩;have hs:=Xa hi hy;have hiff:Bel f.xs a.ino e.ino↔Bel f.xs a.ino y.ino:=by
     constructor
     ·intro hB;generalize hn:e.ino=n at hB;cases hB with
      | refl=>exact absurd hn hne
      | step hB1 hv hed =>
       rename_i y';obtain ⟨e',he',q⟩:=hed;have:=(hrk _ (zi hv).2.1 e' he' (by rw[q,←hn];exact hke)).1;rw[q,←hn,p1,(zi hv).2.2]at this;rw[this];exact hB1
     ·intro hB;exact .step hB (Yk hy) ⟨e,by rw[hs];exact hey,rfl⟩
    by_cases hB:Bel f.xs a.ino y.ino
    ·rw[if_pos hB,if_pos (hiff.2 hB)];omega
    ·rw[if_neg hB,if_neg (fun q=>hB (hiff.1 q))];exact p2
  ·have hb2:=Qp hR2 hhi;have e1:bN (zg ({ zg a.ino g with parent:=b.dir }:zn).ino g)=bN { zg a.ino g with parent:=b.dir }:=by
    show bN (zg (zg a.ino g).ino g)=_;rw[hxa.2.2];rfl
   rw[e1]at hb2;have hb3:=Nat.add_right_cancel hb2;show ((qv _ _).length:Int)<=f.maxI/\(qe (qv _ _):Int)<=f.maxB;rw[JI hR2 hhi,hlen,hb3,hbyt];exact hfit
 ·rw[if_neg (show ¬(zg a.ino g).kind=2 from fun q=>hk ((hgm a.ino).1.symm.trans q))];refine h.like (fun z hz=>?_) (fun z hz e he hke=>?_) rfl rfl (by show g.length<=_;omega) (by show (qe g:Int)<=_;omega)
  ·obtain ⟨y,hy,es,rfl,e2⟩:=hmm hz;exact hnode hy e2
  ·obtain ⟨y,hy,es,rfl,e2⟩:=hmm hz;have hke:(zg e.ino g).kind=2:=hke;rw[(hgm _).1]at hke;rcases e2 e he with ⟨rfl,_⟩ | ⟨q,_⟩
   ·exact absurd hke hk
   ·exact ⟨y,hy,rfl,q,hke,(hgm _).2⟩
end
section
inductive HJ (xs:List zn):List Lz->Int->Prop
 | root:HJ xs [] 1
 | step {ns:List Lz} {y n:Int} {m:Lz}:HJ xs ns y->zk y xs=true->(zg y xs).kind=2->jO z6.name m (zg y xs).es=some ⟨m,n⟩->HJ xs (ns++[m]) n
theorem HJ.inv (h:HJ xs ns n):(ns = []/\n=1)∨∃ ms y m,ns=ms++[m]/\HJ xs ms y/\zk y xs=true/\(zg y xs).kind=2/\jO z6.name m (zg y xs).es=some ⟨m,n⟩:=by
 cases h with
 | root=>exact .inl ⟨rfl,rfl⟩
 | step h1 h2 h3 h4=>exact .inr ⟨_,_,_,rfl,h1,h2,h3,h4⟩
theorem M1 (hi:FsI f) (h:FsR f) {x y z:Int} {m k:Lz} (hx:(zg x f.xs).kind=2) (hy:zk y f.xs=true) (hyk:(zg y f.xs).kind=2) (h1:jO z6.name m (zg y f.xs).es=some ⟨m,x⟩) (hz:zk z f.xs=true) (h2:∃ e∈(zg z f.xs).es,e.name=k/\e.ino=x):z=y/\k=m:=by
 obtain ⟨e,he,rfl,q⟩:=h2;obtain ⟨rk,hr⟩:=h.edge;have gy:=zi hy;have gz:=zi hz;have p1:=(hr _ gy.2.1 ⟨m,x⟩ (ql h1).2 hx).1;have p2:=(hr _ gz.2.1 e he (by rw[q];exact hx)).1;rw[q,gz.2.2]at p2;rw[gy.2.2]at p1;have hzy:z=y:=p2.symm.trans p1;refine ⟨hzy,AI fun hne=>?_⟩;subst hzy;exact za5 hi h (a:=⟨z,m,x⟩) ⟨hy,hyk,h1⟩ hx gy.2.1 he (fun _=>hne) q
theorem y8 (hi:FsI f) {y:Int} (hy:zk y f.xs=true) {e:z6} (he:e∈(zg y f.xs).es):e.ino≠1:=ZD hi.bare _ (zi hy).2.1 e he
theorem HJ.one (hi:FsI f) (h:FsR f):∀ {ms ns:List Lz} {x:Int},HJ f.xs ms x->HJ f.xs ns x->(zg x f.xs).kind=2->ms=ns:=by
 intro ms ns x h1
 induction h1 generalizing ns with
 | root =>
  intro h2 hk;rcases h2.inv with ⟨e,_⟩ | ⟨ms,y,m,e,_,g1,g2,g3⟩
  ·exact e.symm
  ·exact absurd rfl (y8 hi g1 (ql g3).2)
 | step a1 a2 a3 a4 ih =>
  intro h2 hk;rcases h2.inv with ⟨e,e1⟩ | ⟨ms,y,m,rfl,g0,g1,g2,g3⟩
  ·exact absurd e1 (y8 hi a2 (ql a4).2)
  ·obtain ⟨rfl,rfl⟩:=M1 hi h hk a2 a3 a4 g1 ⟨_,(ql g3).2,rfl,rfl⟩;rw[ih g0 a3]
theorem Bel.lead (hi:FsI f) (h:FsR f) {x:Int} {ns:List Lz} (hn:HJ f.xs ns x):∀ {m:Int} {ms:List Lz},Bel f.xs x m->HJ f.xs ms m->(zg m f.xs).kind=2->∃ r,ms=ns++r:=by
 intro m ms hB
 induction hB generalizing ms with
 | refl=>intro h1 hk;exact ⟨[],by rw[Oi];exact HJ.one hi h h1 hn hk⟩
 | step b1 b2 b3 ih =>
  intro h1 hk;obtain ⟨e,he,q⟩:=b3;rcases h1.inv with ⟨_,e1⟩ | ⟨ms',y',k,rfl,g0,g1,g2,g3⟩
  ·exact absurd (q.trans e1) (y8 hi b2 he)
  ·obtain ⟨rfl,_⟩:=M1 hi h hk g1 g2 g3 b2 ⟨e,he,rfl,q⟩;obtain ⟨r,hr⟩:=ih g0 g2;exact ⟨r++[k],by rw[hr,WT]⟩
theorem Ns {f:FsV} (hi:FsI f):∀ (ns pre:List Lz) (s:zO),(s.ino≠0->HJ f.xs pre s.ino/\zk s.ino f.xs=true)->(atW f.xs ns s).2=0->ns≠[] ->
  ∃ ms,ns=ms++[(atW f.xs ns s).1.name]/\HJ f.xs (pre++ms) (atW f.xs ns s).1.dir
 | [],pre,s,_,_,h=>absurd rfl h
 | n :: r,pre,s,hs,h0,_=>by
  unfold atW at h0 ⊢;by_cases h1:s.ino=0
  ·rw[if_pos h1]at h0;cases h0
  rw[if_neg h1]at h0 ⊢;by_cases h2:(zg s.ino f.xs).kind≠2
  ·rw[if_pos h2]at h0;cases h0
  rw[if_neg h2]at h0 ⊢;have h2:(zg s.ino f.xs).kind=2:=Wy.1 h2;obtain ⟨g1,g2⟩:=hs h1;have hg:=zi g2;cases r with
  | nil =>
   unfold atW;refine ⟨[],rfl,?_⟩;rw[Oi];show HJ f.xs pre (zg s.ino f.xs).ino;rw[hg.2.2];exact g1
  | cons m r =>
   obtain ⟨ms,e1,e2⟩:=Ns hi (m :: r) (pre++[n]) ⟨(zg s.ino f.xs).ino,n,zP n (zg s.ino f.xs).es⟩ (fun hne=>by
    have hne:zP n (zg s.ino f.xs).es≠0:=hne;have hh:Xu n (zg s.ino f.xs).es=true:=by
     unfold Xu;rw[jq];cases hq:jO z6.name n (zg s.ino f.xs).es with
     | some e=>rfl
     | none=>unfold zP at hne;rw[hq]at hne;exact absurd rfl hne
    exact ⟨.step g1 g2 h2 (YV hh),kg hi g2 hh⟩) h0 (by simp)
   refine ⟨n :: ms,by rw[Oh,←e1],?_⟩;rw[WT]at e2;exact e2
theorem zd7 (hi:FsI f) (h:FsR f) {p q:Lz} (hp:qO p=true) (hq:qO q=true) (h1:(isV f p true).2.2=0) (h2:(isV f q false).2.2=0) (hu:Q8 q p=false) (hk:(zg (isV f p true).1.ino f.xs).kind=2):¬Bel f.xs (isV f p true).1.ino (isV f q false).1.dir:=fun hB=>by
 have hta:=(jY hi hp h1).1;have hfb:=J2 hi hq h2;unfold qO at hp hq;simp only[Wt,Ar,Ow]at hp hq;have root:(1:Int)≠0->HJ f.xs [] 1/\zk 1 f.xs=true:=fun _=>⟨.root,hi.root⟩;have ea:(isV f p true).1=(atW f.xs (zm p) ⟨0,[],1⟩).1:=by show (atV f p).1=_;unfold atV;rw[if_pos hp.1]
 have eb:(isV f q false).1=(atW f.xs (zm q) ⟨0,[],1⟩).1:=by show (atV f q).1=_;unfold atV;rw[if_pos hq.1]
 have za:(atW f.xs (zm p) ⟨0,[],1⟩).2=0:=by have:=Vl h1;unfold atV at this;rwa [if_pos hp.1]at this
 have zb:(atW f.xs (zm q) ⟨0,[],1⟩).2=0:=by have:=Vl h2;unfold atV at this;rwa [if_pos hq.1]at this
 obtain ⟨ma,a1,a2⟩:=Ns hi (zm p) [] ⟨0,[],1⟩ root za hp.2;obtain ⟨mb,b1,b2⟩:=Ns hi (zm q) [] ⟨0,[],1⟩ root zb hq.2;rw[←ea]at a1 a2;rw[←eb]at b1 b2;have la:HJ f.xs (zm p) (isV f p true).1.ino:=by
  rw[a1];exact .step a2 hta.has hta.kind hta.there
 obtain ⟨r,hr⟩:=Bel.lead hi h la hB b2 hfb.kind;have hr:mb=zm p++r:=hr;have hn:zm q=zm p++(r++[(isV f q false).1.name]):=by rw[b1,hr,WT]
 have hu2:=vW (zm q) (zm p) (fun x hx=>xy hx) (fun x hx=>xy hx);rw[UM hp.1,UM hq.1,hu,hn,OJ  rfl]at hu2;simp at hu2
end
section
structure uw (w:qR):Prop where
 fs:FsR w.fs
 pool:∀ x∈w.pool,qF w x
 slots:∀ k∈w.kept,1<=k.slot
 kept:∀ k∈w.kept,XS w k
theorem zr1 (h:okW w):uw w:=⟨zeL (okV.m ⟨h.1.2.1,h.2.1⟩),h.2.2.2.1,h.2.2.2.2.1.2,h.2.2.2.2.2⟩
theorem zsX (h:uw w) {g:FsV} (hg:FsR g) (hn:w.fs.next<=g.next) (hp:∀ x∈w.pool,zk x.ino g.xs=false) (hk:∀ m,zk m w.fs.xs=true->zk m g.xs=true/\(zg m g.xs).kind=(zg m w.fs.xs).kind):uw { w with fs:=g }:=by
 refine ⟨hg,fun x hx=>?_,h.slots,fun k hkk=>?_⟩
 ·obtain ⟨q1,q2,q3,q4⟩:=h.pool x hx;exact ⟨hp x hx,q2,by show x.ino<g.next;omega,q4⟩
 ·obtain ⟨q1,q2,q3,q4⟩:=h.kept k hkk;refine ⟨q1,q2.imp (fun q=>(hk _ q).1) id,fun hc=>?_,q4⟩;have:=q3 hc;show (if zk k.ino w.pool=true then zg k.ino w.pool else zg k.ino g.xs).kind=1;by_cases hq:zk k.ino w.pool=true
  ·rw[if_pos hq]at this ⊢;exact this
  ·rw[if_neg hq]at this ⊢;rw[(hk _ (q2.resolve_right hq)).2];exact this
theorem zf4 (hi:Vk w) (h:uw w) {p:Lz} (hp:qO p=true) {k:Int} (hk:k=1∨k=2∨k=3) {t:Lz} (h2:k=2->t = []) (h3:k=3->1<=t.length/\t.length<=4095/\∀ b∈t,b≠0):uw (YG w p k t).1:=by
 unfold YG;by_cases hz:(isV w.fs p false).2.2≠0
 ·rw[if_pos hz];exact h
 rw[if_neg hz];have hs:=J2 hi.fs hp (Wy.1 hz);obtain ⟨n1,n2⟩:=Na hi.fs;show uw { w with fs:=(Hw w.fs (isV w.fs p false).1 k t).1 };unfold Hw;by_cases hm:may (isV w.fs p false).1.name=true
 case neg=>rw[if_neg hm];exact h
 rw[if_pos hm];by_cases hr:Yp w.fs 1 (if k=1 then (t.length:Int) else 0)=true
 case neg=>rw[if_neg hr];exact h
 rw[if_pos hr];have hhas:∀ m,zk m (Mj w.fs (isV w.fs p false).1 k t).xs=(decide (w.fs.next=m)||zk m w.fs.xs):=fun m=>by
  show zk m (qv _ _)=_;rw[jd,z7 hs.has]
 refine zsX h (zra hi.fs h.fs hs hm hk hr h2 h3) (by show w.fs.next<=w.fs.next+1;omega) (fun x hx=>?_) (fun m hh=>⟨by rw[hhas,hh,BB],?_⟩)
 ·rw[hhas,(hi.apart x hx).1,Az];exact Wp (by have:=(hi.apart x hx).2;omega)
 ·have hne:w.fs.next≠m:=fun e=>by rw[←e,n1]at hh;cases hh
  show (zg m (qv _ _)).kind=_;rw[qV,if_neg hne];exact (jM hs.has).1
theorem JE {k z:zV} {ks:List zV}:z∈qK k ks↔z=k∨z∈ks:=QA
theorem U2 {w':qR} {x:zn} (h:qF w x) (h1:zk x.ino w'.fs.xs=false) (h2:w.fs.next<=w'.fs.next) (h3:∀ k∈w.kept,k∈w'.kept):qF w' x:=by
 obtain ⟨q1,q2,q3,q4,q5,q6,q7,q8,q9,q10⟩:=h;refine ⟨h1,q2,by omega,q4,q5,q6,q7,q8,q9,?_⟩;rw[OA]at q10 ⊢;obtain ⟨k,hk,e⟩:=q10;exact ⟨k,h3 k hk,e⟩
theorem zoK (hi:Vk w) (h:uw w) {n:Int} (h1:1<=n) (h2:n<=1073741824) {s:zO} (hs:zX w.fs s) (he:(zg s.ino w.fs.xs).es = []):uw (XN w n s).1:=by
 have hI:=zgO hi (n:=n) hs he;unfold XN at hI ⊢;cases hn:zaW n w.kept with
 | true=>rw[if_pos rfl];exact h
 | false =>
  rw[hn,if_neg (by simp)]at hI;rw[if_neg (by simp)];have hh:=zX.ino hi.fs hs;have hx:=zi hh;have hnd:=h.fs.node _ hx.2.1;have hr:=zk6 hi.fs h.fs hs he;have hhas:=Vv hs.has hh;have hnp:zk s.ino w.pool=false:=by
   rw[Or];intro hq;have:=(hi.apart _ (zi hq).2.1).1;rw[(zi hq).2.2,hh]at this;cases this
  have hgk:∀ m,zk m (zI w.fs s).xs=true->(zg m (zI w.fs s).xs).kind=(zg m w.fs.xs).kind:=fun m hm=>by
   unfold zI at hm ⊢;by_cases hl:(zg s.ino w.fs.xs).links-1=0
   ·rw[if_pos hl]at hm ⊢;have hm:zk m (qh _ _)=true:=hm;show (zg m (qh _ _)).kind=_;rw[Qw]at hm;rw[Hs,if_neg (fun e=>by rw[e]at hm;simp at hm)];exact (jM hs.has).1
   ·rw[if_neg hl];show (zg m (qv _ _)).kind=_;rw[qV];split
    ·rename_i e;have e:(zg s.ino w.fs.xs).ino=m:=e;rw[hx.2.2]at e;subst e;rfl
    ·exact (jM hs.has).1
  by_cases hl:(zg s.ino w.fs.xs).links=1
  ·rw[if_pos hl]at hI ⊢;have hhp:∀ m,zk m (qv { zg s.ino w.fs.xs with links:=0,parent:=0 } w.pool)=(decide (s.ino=m)||zk m w.pool):=fun m=>by
    rw[jd];show (decide ((zg s.ino w.fs.xs).ino=m)||_)=_;rw[hx.2.2]
   refine ⟨hr,fun x hxx=>?_,fun k hk=>?_,fun k hk=>?_⟩
   ·have ha:=(hI.apart x hxx).1;rcases qB.1 hxx with rfl | ⟨hxp,_⟩
    ·have hir:=hi.fs.ino _ hx.2.1;refine ⟨ha,hir.1,by show _<(zI w.fs s).next;rw[Yu];exact hir.2,rfl,rfl,he,hi.fs.kind (zg s.ino w.fs.xs) hx.2.1,hnd.bare,hnd.lnk,?_⟩;rw[OA];refine ⟨_,JE.2 (.inl rfl),?_⟩;show (decide (s.ino=(zg s.ino w.fs.xs).ino)&&!false)=true;rw[hx.2.2];simp
    ·exact U2 (h.pool x hxp) ha (by show w.fs.next<=(zI w.fs s).next;rw[Yu];exact Ao _) fun k hk=>JE.2 (.inr hk)
   ·rcases JE.1 hk with rfl | hk
    ·exact h1
    ·exact h.slots k hk
   ·rcases JE.1 hk with rfl | hk
    ·exact ⟨h2,.inr (by show zk s.ino _=true;rw[hhp];simp),fun q=>(by cases q),fun _=>rfl⟩
    ·obtain ⟨q1,q2,q3,q4⟩:=h.kept k hk;refine ⟨q1,?_,fun hc=>?_,q4⟩
     ·show zk k.ino (zI w.fs s).xs=true∨zk k.ino _=true;rw[hhp,hhas,if_pos (by omega)];by_cases e:k.ino=s.ino
      ·right;rw[e];simp
      ·rcases q2 with q2 | q2
       ·left;rw[q2,Wp e];rfl
       ·right;rw[q2,BB]
     ·have:=q3 hc;show (if zk k.ino _=true then zg k.ino _ else zg k.ino (zI w.fs s).xs).kind=1;by_cases e:s.ino=k.ino
      ·rw[if_pos (by rw[hhp,Wo e];rfl),qV,if_pos (by rw[←e];exact hx.2.2)];rw[←e,hnp,if_neg (by simp)]at this;exact this
      ·rw[hhp,Wp e,O4];have e5:zg k.ino (qv { zg s.ino w.fs.xs with links:=0,parent:=0 } w.pool)=zg k.ino w.pool:=by
        rw[qV];exact if_neg fun q=>e (hx.2.2.symm.trans q)
       rw[e5];by_cases hq:zk k.ino w.pool=true
       ·rw[if_pos hq]at this ⊢;exact this
       ·rw[if_neg hq]at this ⊢;have q5:=q2.resolve_right hq;rw[hgk _ (by rw[hhas,if_pos (by omega),q5,Wp (fun q=>e q.symm)];rfl)];exact this
  ·rw[if_neg hl]at hI ⊢;have hall:∀ m,zk m (zI w.fs s).xs=zk m w.fs.xs:=fun m=>by rw[hhas,if_neg (by omega)]
   refine ⟨hr,fun x hxx=>?_,fun k hk=>?_,fun k hk=>?_⟩
   ·exact U2 (h.pool x hxx) (hI.apart x hxx).1 (by show w.fs.next<=(zI w.fs s).next;rw[Yu];exact Ao _) fun k hk=>JE.2 (.inr hk)
   ·rcases JE.1 hk with rfl | hk
    ·exact h1
    ·exact h.slots k hk
   ·rcases JE.1 hk with rfl | hk
    ·exact ⟨h2,.inl (by show zk s.ino (zI w.fs s).xs=true;rw[hall];exact hh),fun q=>(by cases q),fun _=>rfl⟩
    ·obtain ⟨q1,q2,q3,q4⟩:=h.kept k hk;refine ⟨q1,?_,fun hc=>?_,q4⟩
     ·show zk k.ino (zI w.fs s).xs=true∨_;rw[hall];exact q2
     ·have:=q3 hc;show (if zk k.ino w.pool=true then zg k.ino w.pool else zg k.ino (zI w.fs s).xs).kind=1;by_cases hq:zk k.ino w.pool=true
      ·rw[if_pos hq]at this ⊢;exact this
      ·rw[if_neg hq]at this ⊢;rw[hgk _ (by rw[hall];exact q2.resolve_right hq)];exact this
theorem zjW {i:Int} {t:Lz} (hh:zk i f.xs=true) (m:Int):zk m (X4 f i t).xs=zk m f.xs/\(zg m (X4 f i t).xs).kind=(zg m f.xs).kind:=by
 have hx:=zi hh;constructor
 ·show zk m (qv _ _)=_;rw[jd];show (decide ((zg i f.xs).ino=m)||_)=_;rw[hx.2.2];by_cases e:i=m
  ·subst e;rw[hh];simp
  ·simp[e]
 ·show (zg m (qv _ _)).kind=_;rw[qV];split
  ·rename_i e;have e:(zg i f.xs).ino=m:=e;rw[hx.2.2]at e;subst e;rfl
  ·rfl
theorem zfV (hi:Vk w) (h:uw w) {o:OpV} (ha:qO o.a=true) (hb:qO o.b=true) (h1:1<=o.slot) (h2:o.slot<=1073741824):uw (QP w o).1:=by
 unfold QP;by_cases z1:(ju w.fs o.a).2≠0
 ·rw[if_pos z1];exact h
 rw[if_neg z1];by_cases z2:(ju w.fs o.b).2≠0
 ·rw[if_pos z2];exact h
 rw[if_neg z2];by_cases z3:(ju w.fs o.a).1.ino=(ju w.fs o.b).1.ino
 ·rw[if_pos z3];exact h
 rw[if_neg z3];by_cases z4:(JL w o.slot (ju w.fs o.b).1.ino).2≠0
 ·rw[if_pos z4];exact h
 rw[if_neg z4];by_cases z5:(UV w.fs (ju w.fs o.b).1.ino (ju w.fs o.a).1.data).2≠0
 ·rw[if_pos z5];exact h
 rw[if_neg z5];obtain ⟨f1,f2,f3⟩:=ki hi.fs hb (Wy.1 z2);generalize (ju w.fs o.b).1.ino=i at *;generalize (ju w.fs o.a).1.data=t at *;have hk1:(zg i w.fs.xs).kind=1:=by rw[←f3];exact f2
 have hnp:zk i w.pool=false:=by
  rw[Or];intro hq;have:=(hi.apart _ (zi hq).2.1).1;rw[(zi hq).2.2,f1]at this;cases this
 have e1:(JL w o.slot i).1 = { w with kept:=qK ⟨o.slot,i,true,(zg i w.fs.xs).data⟩ w.kept }:=by
  unfold JL at z4 ⊢;split
  ·rename_i hq;rw[if_pos hq]at z4;exact absurd (show (13:Int)≠0 by decide) z4
  ·rfl
 have hr:Yp w.fs 0 ((t.length:Int)-(zg i w.fs.xs).data.length)=true:=by
  unfold UV at z5;cases hq:Yp w.fs 0 ((t.length:Int)-(zg i w.fs.xs).data.length) with
  | true=>rfl
  | false=>rw[hq,if_neg (by simp)]at z5;exact absurd (show (8:Int)≠0 by decide) z5
 have e2:(UV w.fs i t).1=X4 w.fs i t:=by unfold UV;rw[if_pos hr]
 rw[e1,e2];show uw ⟨X4 w.fs i t,qK ⟨o.slot,i,true,(zg i w.fs.xs).data⟩ w.kept,w.pool⟩;have hg:=zjW (t:=t) f1;refine ⟨zpl hi.fs h.fs f1 hk1 hr,fun x hx=>?_,fun k hk=>?_,fun k hk=>?_⟩
 ·exact U2 (h.pool x hx) (by show zk x.ino (X4 w.fs i t).xs=false;rw[(hg _).1];exact (hi.apart x hx).1) (Ao _) fun k hk=>JE.2 (.inr hk)
 ·rcases JE.1 hk with rfl | hk
  ·exact h1
  ·exact h.slots k hk
 ·rcases JE.1 hk with rfl | hk
  ·refine ⟨h2,.inl (by show zk i (X4 w.fs i t).xs=true;rw[(hg _).1];exact f1),fun _=>?_,fun q=>(by cases q)⟩;show (if zk i w.pool=true then zg i w.pool else zg i (X4 w.fs i t).xs).kind=1;rw[hnp,if_neg (by simp),(hg i).2];exact hk1
  ·obtain ⟨q1,q2,q3,q4⟩:=h.kept k hk;refine ⟨q1,?_,fun hc=>?_,q4⟩
   ·show zk k.ino (X4 w.fs i t).xs=true∨_;rw[(hg _).1];exact q2
   ·have:=q3 hc;show (if zk k.ino w.pool=true then zg k.ino w.pool else zg k.ino (X4 w.fs i t).xs).kind=1;by_cases hq:zk k.ino w.pool=true
    ·rw[if_pos hq]at this ⊢;exact this
    ·rw[if_neg hq]at this ⊢;rw[(hg _).2];exact this
end
section
theorem zlt (hf:FsI f) {p:Lz} (hp:qO p=true) {b:Bool} (h:(isV f p b).2.2=0):may (isV f p b).1.name=true:=by
 have h1:=(zkv hf hp (Vl h)).2.2.2;unfold qO Yh at hp;simp only[Wt]at hp;exact WC.1 hp.1.2 _ h1
theorem zkO {o:OpV} (h:Mo o=true):(NQ o.kind=true->1<=o.slot/\o.slot<=1073741824)/\(o.kind=4->Ql o.d=true)/\(o.kind=6->Q8 o.b o.a=false):=by
 unfold Mo at h;simp only[Wt,W8]at h;obtain ⟨⟨⟨⟨⟨⟨h1,h2⟩,h3⟩,h4⟩,h5⟩,h6⟩,h7⟩:=h;refine ⟨fun q=>?_,fun q=>?_,fun q=>?_⟩
 ·rw[if_pos q]at h4;simpa using h4
 ·rw[if_pos q]at h6;exact h6
 ·rw[Wo q]at h7;simp at h7;exact h7.2
theorem zen {t:Lz} (h:Ql t=true):1<=t.length/\t.length<=4095/\∀ b∈t,b≠0:=by
 unfold Ql at h;simp only[Wt,Ar,Ow,W8]at h;obtain ⟨⟨h1,h2⟩,h3⟩:=h;refine ⟨WE.2 h1,h2,fun b hb e=>?_⟩;rw[Om]at h3;exact h3 b hb (by simpa using e)
theorem zil {s:zO} (hs:YT f s) {i:Int} (hh:zk i f.xs=true) (m:Int):zk m (ZW f s i).xs=zk m f.xs/\(zg m (ZW f s i).xs).kind=(zg m f.xs).kind:=by
 have hx:=zi hh;constructor
 ·show zk m (qv _ _)=_;rw[jd,z7 hs.has];show (decide ((zg i f.xs).ino=m)||_)=_;rw[hx.2.2];by_cases e:i=m
  ·subst e;rw[hh];simp
  ·simp[e]
 ·show (zg m (qv _ _)).kind=_;rw[qV];split
  ·rename_i e;have e:(zg i f.xs).ino=m:=e;rw[hx.2.2]at e;subst e;rfl
  ·exact (jM hs.has).1
theorem zi2 (hi:FsI f) {a b:zO} (ha:zX f a) (hb:YT f b) (m:Int):zk m (QY f a b).xs=zk m f.xs/\(zg m (QY f a b).xs).kind=(zg m f.xs).kind:=by
 have hb1:zk b.dir (qr a.dir (zj a.name) f.xs)=true:=by rw[z7 ha.has];exact hb.has
 have hh:∀ m,zk m (qr b.dir (zW b.name a.ino) (qr a.dir (zj a.name) f.xs))=zk m f.xs:=fun m=>by rw[z7 hb1,z7 ha.has]
 have hg:=zf0 ha hb;unfold QY;simp only;generalize qr b.dir (zW b.name a.ino) (qr a.dir (zj a.name) f.xs)=g at hh hg;split
 ·have hx:=zi (show zk a.ino g=true by rw[hh];exact zX.ino hi ha);constructor
  ·show zk m (qv _ _)=_;rw[jd];show (decide ((zg a.ino g).ino=m)||_)=_;rw[hx.2.2,hh];by_cases e:a.ino=m
   ·subst e;rw[zX.ino hi ha];simp
   ·simp[e]
  ·show (zg m (qv _ _)).kind=_;rw[qV];split
   ·rename_i e;have e:(zg a.ino g).ino=m:=e;rw[hx.2.2]at e;subst e;exact (hg _).1
   ·exact (hg m).1
 ·exact ⟨hh m,(hg m).1⟩
theorem ztm (hi:Vk w) (h:uw w) (o:OpV) (hk7:o.kind<=7):uw (doV w o).1:=by
 unfold doV;cases hm:Mo o with
 | false=>exact h
 | true =>
  obtain ⟨p1,p2,k1,_⟩:=Ym hm;obtain ⟨m1,m2,m3⟩:=zkO hm;rw[if_neg (by simp)];by_cases h1:o.kind=1
  ·rw[if_pos h1];exact zf4 hi h p1 (.inr (.inl rfl)) (fun _=>rfl) (fun q=>by cases q)
  rw[if_neg h1];by_cases h2:o.kind=2
  ·rw[if_pos h2];unfold VR;split
   ·exact h
   ·exact zf4 hi h (p2 (by rw[h2];rfl)) (.inl rfl) (fun q=>by cases q) (fun q=>by cases q)
  rw[if_neg h2];by_cases h3:o.kind=3
  ·rw[if_pos h3];obtain ⟨q1,q2⟩:=m1 (by rw[h3];rfl);exact zfV hi h p1 (p2 (by rw[h3];rfl)) q1 q2
  rw[if_neg h3];by_cases h4:o.kind=4
  ·rw[if_pos h4];exact zf4 hi h p1 (.inr (.inr rfl)) (fun q=>by cases q) (fun _=>zen (m2 h4))
  rw[if_neg h4];by_cases h5:o.kind=5
  ·rw[if_pos h5];have pb:=p2 (by rw[h5];rfl);unfold jV;simp only;by_cases z1:(isV w.fs o.a true).2.2≠0
   ·rw[if_pos z1];exact h
   rw[if_neg z1];obtain ⟨ht,hn⟩:=jY hi.fs p1 (Wy.1 z1);by_cases z2:(isV w.fs o.a true).2.1.kind=2
   ·rw[if_pos z2];exact h
   rw[if_neg z2];by_cases z3:(isV w.fs o.b false).2.2≠0
   ·rw[if_pos z3];exact h
   rw[if_neg z3];have z3:=Wy.1 z3;have hf:=J2 hi.fs pb z3;have hh:=zX.ino hi.fs ht;rw[hn]at z2 ⊢;rw[(zi hh).2.2];have hg:=zil hf hh;exact zsX h (zoI hi.fs h.fs hf (zlt hi.fs pb z3) hh z2) (Ao _) (fun x hx=>by rw[(hg _).1];exact (hi.apart x hx).1) fun m hmm=>⟨by rw[(hg _).1];exact hmm,(hg _).2⟩
  rw[if_neg h5];by_cases h6:o.kind=6
  ·rw[if_pos h6];have pb:=p2 (by rw[h6];rfl);unfold Gv;by_cases z1:(isV w.fs o.a true).2.2≠0
   ·rw[if_pos z1];exact h
   rw[if_neg z1];by_cases z3:(isV w.fs o.b false).2.2≠0
   ·rw[if_pos z3];exact h
   rw[if_neg z3];have z1:=Wy.1 z1;have z3:=Wy.1 z3;have ht:=(jY hi.fs p1 z1).1;have hf:=J2 hi.fs pb z3;have hg:=zi2 hi.fs ht hf;refine zsX h (zrl hi.fs h.fs ht hf (zlt hi.fs pb z3) fun hk=>zd7 hi.fs h.fs p1 pb z1 z3 (m3 h6) hk) ?_ (fun x hx=>by rw[(hg _).1];exact (hi.apart x hx).1) fun m hmm=>⟨by rw[(hg _).1];exact hmm,(hg _).2⟩;unfold QY;simp only;split<;>exact Ao _
  rw[if_neg h6];have h7:o.kind=7:=by omega
  obtain ⟨q1,q2⟩:=m1 (by rw[h7];rfl);unfold jb;simp only;by_cases z1:(isV w.fs o.a true).2.2≠0
  ·rw[if_pos z1];exact h
  rw[if_neg z1];obtain ⟨ht,hn⟩:=jY hi.fs p1 (Wy.1 z1);by_cases z2:(isV w.fs o.a true).2.1.es≠[]
  ·rw[if_pos z2];exact h
  rw[if_neg z2];exact zoK hi h q1 q2 ht (by rw[←hn];exact Wy.1 z2)
theorem UU (w:qR) (p:Lz) (k:Int) (t:Lz):(YG w p k t).1.fs.next<=w.fs.next+1:=by
 unfold YG;split
 ·show w.fs.next<=_;omega
 ·show (Hw w.fs (isV w.fs p false).1 k t).1.next<=_;rcases QR w.fs (isV w.fs p false).1 k t with e | e
  ·rw[e];omega
  ·rw[e];exact Ao _
theorem zl6 (w:qR) (o:OpV):(doV w o).1.fs.next<=w.fs.next+1:=by
 have h0:w.fs.next<=w.fs.next+1:=by omega
 unfold doV;split
 ·exact h0
 split
 ·exact UU ..
 split
 ·unfold VR;split
  ·exact h0
  ·exact UU ..
 split
 ·unfold QP;split
  ·exact h0
  split
  ·exact h0
  split
  ·exact h0
  split
  ·exact h0
  split
  ·exact h0
  ·show (UV w.fs _ _).1.next<=_;unfold UV;split<;>exact h0
 split
 ·exact UU ..
 split
 ·unfold jV;simp only;split
  ·exact h0
  split
  ·exact h0
  split
  ·exact h0
  ·exact h0
 split
 ·unfold Gv;split
  ·exact h0
  split
  ·exact h0
  ·show (QY w.fs _ _).next<=_;unfold QY;simp only;split<;>exact h0
 ·unfold jb;simp only;split
  ·exact h0
  split
  ·exact h0
  ·unfold XN;split
   ·exact h0
   ·show (zI w.fs _).next<=_;rw[Yu];exact h0
end
section
inductive zj5 (w:qR):List OpV->qR->Prop
 | nil:zj5 w [] w
 | snoc {l:List OpV} {v:qR} {o:OpV}:zj5 w l v->(doV v o).2=0->zj5 w (l++[o]) (doV v o).1
structure zto (w:qR) (d:qn):Prop where
 run:zj5 w d.ops d.w
 may:∀ o∈d.ops,Mo o=true/\o.kind<=7
 rise:(zlK d.ops).Pairwise (· < ·)
 over:∀ s∈zlK d.ops,Jm w.kept<s/\s<=d.slot
 last:Jm w.kept<=d.slot
 stat:(d.status=1)↔d.diags≠[]
 right:uw d.w
end
section
theorem xA {f:FsV} (h:okM f):∀ (m:Nat) (n:Int) (ns:List Lz),HJ f.xs ns n->∀ p∈jm f.xs m n ns,HJ f.xs p.1 p.2.ino
 | 0,n,ns,hl,p,hp=>by unfold jm at hp;cases hp
 | m+1,n,ns,hl,p,hp=>by
  unfold jm at hp;split at hp
  ·rename_i hh;rcases WK.1 hp with rfl | hp
   ·show HJ f.xs ns (zg n f.xs).ino;rw[(zi hh).2.2];exact hl
   ·obtain ⟨e,he,hp⟩:=Ay.1 hp;have hi:=Ho h.2;refine xA h m e.ino _ (.step hl hh (kR h hh he) ?_) p hp;have hR:=hi.es _ (zi hh).2.1;have hx:Xu e.name (zg n f.xs).es=true:=by
     unfold Xu Yo;rw[OA];exact ⟨e,he,by simp⟩
    have h2:=YV hx;have h3:=ql h2;have:(⟨e.name,zP e.name (zg n f.xs).es⟩:z6)=e:=by
     obtain ⟨i,hi',ei⟩:=WF h3.2;obtain ⟨j,hj',ej⟩:=WF he;have hp:=WV.1 hR;rcases Aq i j with q | q | q
     ·have:=hp i j hi' hj' q;rw[ei,ej]at this;exact absurd this (by show ¬Op.bytesLess e.name e.name=true;rw[Z6];simp)
     ·subst q;rw[←ei,ej]
     ·have:=hp j i hj' hi' q;rw[ei,ej]at this;exact absurd this (by show ¬Op.bytesLess e.name e.name=true;rw[Z6];simp)
    rw[h2];have e2:zP e.name (zg n f.xs).es=e.ino:=WA z6.ino this;rw[e2]
  ·cases hp
theorem zi5 (h:okM f) {n:Int} (hh:zk n f.xs=true) (hk:(zg n f.xs).kind=2):∃ ns,(∀ z∈ns,may z=true)/\kW n (trV f.xs 1 [])=some (qS ns)/\HJ f.xs ns n:=by
 obtain ⟨h0,h1,_⟩:=qJ h;have hkk:∀ p∈trV f.xs 1 [],p.2.ino=n->p.2.kind=2:=fun p hp hpn=>by
  obtain ⟨_,q⟩:=U0 hp;rw[hpn]at q;rw[←q];exact hk
 obtain ⟨p,hp⟩:=Uy (Xm h _ 1 [] h1.2.2.2.2.2.2.2.1) hkk (zey h hh);obtain ⟨q,q1,q2⟩:=MU h hh hk;have hq:Zb n (trV f.xs 1 []) = [qS p.1]:=by unfold Zb;rw[hp];rfl
 rw[hq]at q1;have hqe:qS p.1=q:=by simpa using q1
 have hpf:p∈(trV f.xs 1 []).filter (fun p=>decide (p.2.ino=n)):=by rw[hp];exact Ob.2 rfl
 obtain ⟨hpm,hpn⟩:=OC.1 hpf;obtain ⟨zs,z1,z2⟩:=Nq (k9 h).1 _ 1 [] p hpm;rw[OB]at z1;rw[←z1]at z2;have hl:=xA h _ 1 [] .root p hpm;have hpn:p.2.ino=n:=by simpa using hpn
 rw[hpn]at hl;exact ⟨p.1,z2,by rw[q2,hqe],hl⟩
end
section
def zaF (p:Lz):OpV:=⟨7,0,p,[],[]⟩
structure zt6 (f g:FsV):Prop where
 es:∀ n e,e∈(zg n g.xs).es->e∈(zg n f.xs).es
 has:∀ n,zk n g.xs=true->zk n f.xs=true/\(zg n g.xs).kind=(zg n f.xs).kind
end
section
open CA CB
open Go.RowKit
theorem zmK (w:qR) (hw:Vk w) (hs:zg8 w) (s:Int) (a:Lz) (ha:a.length<=1000000):Fun Tryz.prog GD 111 [XX w,.agg (opL ⟨7,s,a,[],[]⟩)] (.tup [XX (doV w ⟨7,s,a,[],[]⟩).1,.sc (.int .i64 (doV w ⟨7,s,a,[],[]⟩).2)]) 0:=by
 have ho:yu ⟨7,s,a,[],[]⟩:=⟨ha,Wc _,Wc _⟩;have hop:=(kG 7 s a [] [] ho).gd1;cases hm:Mo ⟨7,s,a,[],[]⟩ with
 | false =>
  have e:doV w ⟨7,s,a,[],[]⟩=(w,12):=by unfold doV;rw[hm];rfl
  rw[hm]at hop;rw[e];unfold opL qM at hop;unfold opL;refine fof (fun i=>if i=3 then [false,false,false,false,false,false,false,false,false,true] else []) Tryz.func111 ?_;dsimp only[Tryz.f111];push_cast;refine cl hop ?_;push_cast;exact dn
 | true =>
  obtain ⟨p1,_⟩:=Ym hm;have e:doV w ⟨7,s,a,[],[]⟩=jb w ⟨7,s,a,[],[]⟩:=by unfold doV;rw[hm];rfl
  have hq:Fun Tryz.prog GD 193 _ _ 0:=(ze0 w hw hs ⟨7,s,a,[],[]⟩ ho p1).g0;rw[hm]at hop;rw[e];unfold opL qM at hop;unfold opL at hq ⊢;refine fof (fun i=>if i=3 then [false,false,false,false,false,false,false,false,false,true] else []) Tryz.func111 ?_;dsimp only[Tryz.f111];push_cast;refine cl hop ?_;push_cast;refine cl (UT (G:=GD)) ?_;push_cast [zhS,Uw,reduceIte,Int.reduceEq,WI,Oo];refine cl hq ?_;push_cast;exact dn
theorem zls (d:qn) (hd:za9 d) (p:Lz) (hp:p.length<=1000000):Fun Tryz.prog GD 62 [Mp d,.agg (opL (zaF p))] (.tup [Mp (J9 d (zaF p)).1,.sc (.int .i64 (J9 d (zaF p)).2)]) 0:=by
 have hsl:=V0 (G:=GD) ⟨7,0,p,[],[]⟩;rw[Wo (show (7:Int)=3∨(7:Int)=7 by decide)]at hsl;have hb1:=hd.slot.1;have hb2:=hd.slot.2;have hopl:(d.ops.map opL).length=d.ops.length:=We ..;have hol:=hd.ops;have hl5:∀ l:List OpV,∀ r∈l.map opL,r.length=5:=fun l r hr=>by obtain ⟨x,_,rfl⟩:=WR.1 hr;rfl
 have hst:∀ l:List OpV,jl (l.map opL):=fun l r hr=>by obtain ⟨x,_,rfl⟩:=WR.1 hr;rfl
 have hX:=yk (G:=GD) (d.ops.map opL) (([⟨7,d.slot+1,p,[],[]⟩]:List OpV).map opL) (hl5 _) (hl5 _) (hst _) (hst _) (by omega) (by simp) (by simp);rw[←W9]at hX;have hc:=(hX.fun (r:=.own 0 55 5 ((d.ops++([⟨7,d.slot+1,p,[],[]⟩]:List OpV)).map opL)) (n:=1) (by
  rintro r bx m ⟨rfl,c,B,hB,rfl,rfl⟩;exact ⟨[(0,55,5,(d.ops++([⟨7,d.slot+1,p,[],[]⟩]:List OpV)).map opL,c)],[.inl 0],hB.ok rfl (by simp) (hl5 _),rfl,rfl,by push_cast [ze,zd,CLe,zf,We]⟩)).weak (r':=.sl 5 ((d.ops++([⟨7,d.slot+1,p,[],[]⟩]:List OpV)).map opL)) (by push_cast [ze,zd,CLe,zf])
 have hdo:=zmK d.w hd.wi hd.ws (d.slot+1) p hp;have ea:J9 d (zaF p)=if (doV d.w ⟨7,d.slot+1,p,[],[]⟩).2≠0 then (d,(doV d.w ⟨7,d.slot+1,p,[],[]⟩).2) else (⟨(doV d.w ⟨7,d.slot+1,p,[],[]⟩).1,d.ops++[⟨7,d.slot+1,p,[],[]⟩],d.diags,d.status,if 0<d.slot+1 then d.slot+1 else d.slot⟩,0):=by
  unfold J9;rw[if_neg (show ¬7<(zaF p).kind by show ¬(7:Int)<7;decide),show ZZ d (zaF p)=⟨7,d.slot+1,p,[],[]⟩ from rfl]
 have hmx:(if d.slot+1>d.slot then d.slot+1 else d.slot)=d.slot+1:=if_pos (by omega);unfold opL at hsl hdo;rw[show opL (zaF p) = [.sc (.int .i64 7),.sc (.int .i64 0),.str p,.str [],.str []] from rfl];by_cases hz:(doV d.w ⟨7,d.slot+1,p,[],[]⟩).2=0
 ·rw[ea,if_neg (fun h=>h hz),if_pos (show 0<d.slot+1 by omega)];rw[hz]at hdo;simp only[Wm,Wv,zp5]at hc;refine fon Tryz.func62 ?_;dsimp only[Tryz.f62];push_cast;refine cl hsl ?_;push_cast
  repeat refine an ?_
  push_cast;refine cl hdo ?_;push_cast;refine cl hc ?_;push_cast [hmx];exact dn
 ·have hz':=WH hz;rw[ea,if_pos hz];refine fon Tryz.func62 ?_;dsimp only[Tryz.f62];push_cast;refine cl hsl ?_;push_cast
  repeat refine an ?_
  push_cast;refine cl hdo ?_;push_cast [hz'];exact dn
end
section
open CA CB
open Go.RowKit
def Qa (p u:Lz):OpV:=⟨4,0,p,[],u⟩
def Qk (p q:Lz):OpV:=⟨5,0,p,q,[]⟩
theorem zhL (w:qR) (hw:Vk w) (hs:zg8 w) (a u:Lz) (ha:a.length<=1000000) (hu:u.length<=10000):Fun Tryz.prog GD 111 [XX w,.agg (opL (Qa a u))] (.tup [XX (doV w (Qa a u)).1,.sc (.int .i64 (doV w (Qa a u)).2)]) 0:=by
 have ho:yu ⟨4,0,a,[],u⟩:=⟨ha,Wc _,by show u.length<=_;omega⟩;have hop:=(kG 4 0 a [] u ho).gd1;unfold Qa;cases hm:Mo ⟨4,0,a,[],u⟩ with
 | false =>
  have e:doV w ⟨4,0,a,[],u⟩=(w,12):=by unfold doV;rw[hm];rfl
  rw[hm]at hop;rw[e];unfold opL qM at hop;unfold opL;refine fof (fun i=>if i=3 then [false,false,false,false,false,false,false,false,false,true] else []) Tryz.func111 ?_;dsimp only[Tryz.f111];push_cast;refine cl hop ?_;push_cast;exact dn
 | true =>
  obtain ⟨p1,p2,_⟩:=Ym hm;have e:doV w ⟨4,0,a,[],u⟩=YG w a 3 u:=by unfold doV;rw[hm];rfl
  have hq:Fun Tryz.prog GD 190 _ _ 0:=(zgl w hw hs ⟨4,0,a,[],u⟩ ho p1 hu).g0;rw[hm]at hop;rw[e];unfold opL qM at hop;unfold opL at hq ⊢;refine fof (fun i=>if i=3 then [false,false,false,false,false,false,false,false,false,true] else []) Tryz.func111 ?_;dsimp only[Tryz.f111];push_cast;refine cl hop ?_;push_cast;refine cl (UT (G:=GD)) ?_;push_cast [zhS,Uw,reduceIte,Int.reduceEq,WI,Oo];refine cl hq ?_;push_cast;exact dn
theorem zg0 (w:qR) (hw:Vk w) (hs:zg8 w) (a b:Lz) (ha:a.length<=1000000) (hb:b.length<=1000000):Fun Tryz.prog GD 111 [XX w,.agg (opL (Qk a b))] (.tup [XX (doV w (Qk a b)).1,.sc (.int .i64 (doV w (Qk a b)).2)]) 0:=by
 have ho:yu ⟨5,0,a,b,[]⟩:=⟨ha,hb,Wc _⟩;have hop:=(kG 5 0 a b [] ho).gd1;unfold Qk;cases hm:Mo ⟨5,0,a,b,[]⟩ with
 | false =>
  have e:doV w ⟨5,0,a,b,[]⟩=(w,12):=by unfold doV;rw[hm];rfl
  rw[hm]at hop;rw[e];unfold opL qM at hop;unfold opL;refine fof (fun i=>if i=3 then [false,false,false,false,false,false,false,false,false,true] else []) Tryz.func111 ?_;dsimp only[Tryz.f111];push_cast;refine cl hop ?_;push_cast;exact dn
 | true =>
  obtain ⟨p1,p2,_⟩:=Ym hm;have e:doV w ⟨5,0,a,b,[]⟩=jV w ⟨5,0,a,b,[]⟩:=by unfold doV;rw[hm];rfl
  have hq:Fun Tryz.prog GD 191 _ _ 0:=(zcm w hw hs ⟨5,0,a,b,[]⟩ ho p1 (p2 rfl)).g0;rw[hm]at hop;rw[e];unfold opL qM at hop;unfold opL at hq ⊢;refine fof (fun i=>if i=3 then [false,false,false,false,false,false,false,false,false,true] else []) Tryz.func111 ?_;dsimp only[Tryz.f111];push_cast;refine cl hop ?_;push_cast;refine cl (UT (G:=GD)) ?_;push_cast [zhS,Uw,reduceIte,Int.reduceEq,WI,Oo];refine cl hq ?_;push_cast;exact dn
theorem zak (d:qn) (hd:za9 d) (k:Int) (hk:k<7) (h3:k≠3) (p q u:Lz) (hdo:Fun Tryz.prog GD 111 [XX d.w,.agg (opL ⟨k,0,p,q,u⟩)] (.tup [XX (doV d.w ⟨k,0,p,q,u⟩).1,.sc (.int .i64 (doV d.w ⟨k,0,p,q,u⟩).2)]) 0):Fun Tryz.prog GD 62 [Mp d,.agg (opL ⟨k,0,p,q,u⟩)] (.tup [Mp (J9 d ⟨k,0,p,q,u⟩).1,.sc (.int .i64 (J9 d ⟨k,0,p,q,u⟩).2)]) 0:=by
 have hsl:=V0 (G:=GD) ⟨k,0,p,q,u⟩;rw[show decide ((⟨k,0,p,q,u⟩:OpV).kind=3∨(⟨k,0,p,q,u⟩:OpV).kind=7)=false from Wp (by rintro (z | z);exact h3 z;have z:k=7:=z;omega)]at hsl;have hb1:=hd.slot.1;have hb2:=hd.slot.2;have hopl:(d.ops.map opL).length=d.ops.length:=We ..;have hol:=hd.ops;have hl5:∀ l:List OpV,∀ r∈l.map opL,r.length=5:=fun l r hr=>by obtain ⟨x,_,rfl⟩:=WR.1 hr;rfl
 have hst:∀ l:List OpV,jl (l.map opL):=fun l r hr=>by obtain ⟨x,_,rfl⟩:=WR.1 hr;rfl
 have hX:=yk (G:=GD) (d.ops.map opL) (([⟨k,0,p,q,u⟩]:List OpV).map opL) (hl5 _) (hl5 _) (hst _) (hst _) (by omega) (by simp) (by simp);rw[←W9]at hX;have hc:=(hX.fun (r:=.own 0 55 5 ((d.ops++([⟨k,0,p,q,u⟩]:List OpV)).map opL)) (n:=1) (by
  rintro r bx m ⟨rfl,c,B,hB,rfl,rfl⟩;exact ⟨[(0,55,5,(d.ops++([⟨k,0,p,q,u⟩]:List OpV)).map opL,c)],[.inl 0],hB.ok rfl (by simp) (hl5 _),rfl,rfl,by push_cast [ze,zd,CLe,zf,We]⟩)).weak (r':=.sl 5 ((d.ops++([⟨k,0,p,q,u⟩]:List OpV)).map opL)) (by push_cast [ze,zd,CLe,zf])
 have ea:J9 d ⟨k,0,p,q,u⟩=if (doV d.w ⟨k,0,p,q,u⟩).2≠0 then (d,(doV d.w ⟨k,0,p,q,u⟩).2) else (⟨(doV d.w ⟨k,0,p,q,u⟩).1,d.ops++[⟨k,0,p,q,u⟩],d.diags,d.status,d.slot⟩,0):=by
  have e:ZZ d ⟨k,0,p,q,u⟩=⟨k,0,p,q,u⟩:=by
   unfold ZZ;rw[if_neg (show ¬(k=3∨k=7) by rintro (z | z);exact h3 z;omega)]
  unfold J9;rw[if_neg (show ¬7<(⟨k,0,p,q,u⟩:OpV).kind by show ¬7<k;omega),e];by_cases hz:(doV d.w ⟨k,0,p,q,u⟩).2≠0
  ·rw[if_pos hz,if_pos hz]
  ·rw[if_neg hz,if_neg hz];rfl
 have hmx:¬(0>d.slot):=by omega
 rw[ea];have eo:opL ⟨k,0,p,q,u⟩ = [.sc (.int .i64 k),.sc (.int .i64 0),.str p,.str q,.str u]:=rfl;unfold opL at hsl;rw[eo]at hdo ⊢;simp only[Wm,Wv,eo]at hc hsl;have hk7:=WH (show ¬7<k by omega);by_cases hz:(doV d.w ⟨k,0,p,q,u⟩).2=0
 ·rw[if_neg (fun h=>h hz)];rw[hz]at hdo;refine fon Tryz.func62 ?_;dsimp only[Tryz.f62];push_cast;refine cl hsl ?_;push_cast [hk7];refine cl hdo ?_;push_cast;refine cl hc ?_;push_cast [WH hmx];exact dn
 ·have hz':=WH hz;rw[if_pos hz];refine fon Tryz.func62 ?_;dsimp only[Tryz.f62];push_cast;refine cl hsl ?_;push_cast [hk7];refine cl hdo ?_;push_cast [hz'];exact dn
end
section
abbrev Xk:=List Lz
def onL (f:FsV) (follow:Bool) (lk:zn->zn->Xk->Bool->zO×Int):Xk->zO->Bool->zO×Int
 | [],s,dir=>if zk s.ino f.xs=true/\dir=true/\(zg s.ino f.xs).kind≠2 then (qk,3) else (s,0)
 | n :: r,s,dir =>
  if s.ino=0 then (qk,1)
  else if (zg s.ino f.xs).kind≠2 then (qk,3)
  else if n = [46] then onL f follow lk r ⟨0,[],(zg s.ino f.xs).ino⟩ dir
  else if n = [46,46] then onL f follow lk r ⟨0,[],(zg s.ino f.xs).parent⟩ dir
  else if Xu n (zg s.ino f.xs).es=false∨(zg (zP n (zg s.ino f.xs).es) f.xs).kind≠3∨(r = []/\follow=false/\dir=false) then
   onL f follow lk r ⟨(zg s.ino f.xs).ino,n,zP n (zg s.ino f.xs).es⟩ dir
  else lk (zg (zP n (zg s.ino f.xs).es) f.xs) (zg s.ino f.xs) r dir
def ja (p:Lz):Bool:=!decide (zm p = [])&&Lib.hasSuffix p [47]
def Hy (p:Lz):Bool:=Lib.hasPrefix p [47]
def onN (f:FsV) (follow:Bool):Nat->Xk->zO->Bool->zO×Int
 | 0=>onL f follow fun _ _ _ _=>(qk,6)
 | k+1=>onL f follow fun x d r dir=>if X3 x.data then (qk,7) else onN f follow k (zm x.data++r) ⟨0,[],if Hy x.data then 1 else d.ino⟩ (dir||(ja x.data&&decide (r = [])))
def Jt (f:FsV) (b:Lz):Int×Int:=
 if (atV f b).2≠0 then (0,(atV f b).2) else if (atV f b).1.ino=0 then (0,1) else if (zg (atV f b).1.ino f.xs).kind≠2 then (0,3) else ((zg (atV f b).1.ino f.xs).ino,0)
def qP (f:FsV) (p:Lz):zn×Int:=if (atV f p).2≠0 then (Mg,(atV f p).2) else if (atV f p).1.ino=0 then (Mg,1) else (zg (atV f p).1.ino f.xs,0)
def zx (f:FsV) (b p:Lz) (follow:Bool):zO×Int:=
 if p = [] then (qk,1) else if X3 p then (qk,7)
 else if Hy p then onN f follow 40 (zm p) ⟨0,[],1⟩ (ja p)
 else if (Jt f b).2≠0 then (qk,(Jt f b).2) else onN f follow 40 (zm p) ⟨0,[],(Jt f b).1⟩ (ja p)
def zmB (f:FsV) (s:zO):Prop:=s.name = []∨(zk s.dir f.xs=true/\(zg s.dir f.xs).kind=2/\s.ino=zP s.name (zg s.dir f.xs).es)
theorem Ye (h:(zg n xs).kind=2):zk n xs=true:=by
 cases hh:zk n xs with
 | true=>rfl
 | false=>rw[(JW hh).2]at h;exact absurd h (by decide)
theorem kO {f:FsV} {P:zO->Prop} {Q:Int->Prop} (hp:∀ m,Q m->P ⟨0,[],m⟩) (hq:∀ m,(zg m f.xs).kind=2->Q m/\Q (zg m f.xs).parent) (hn:∀ m n,(zg m f.xs).kind=2->P ⟨m,n,zP n (zg m f.xs).es⟩)
  {follow:Bool} {lk:zn->zn->Xk->Bool->zO×Int} (hl:∀ x m r dir,(zg m f.xs).kind=2->(lk x (zg m f.xs) r dir).2=0->P (lk x (zg m f.xs) r dir).1):∀ (l:Xk) (s:zO) (dir:Bool),P s->(onL f follow lk l s dir).2=0->P (onL f follow lk l s dir).1
 | [],s,dir,hs,h=>by
  unfold onL at h ⊢;split at h
  ·exact absurd h (show ¬(3:Int)=0 by decide)
  ·rename_i hn;rw[if_neg hn];exact hs
 | n :: r,s,dir,hs,h=>by
  unfold onL at h ⊢;by_cases h1:s.ino=0
  ·rw[if_pos h1]at h;exact absurd h (show ¬(1:Int)=0 by decide)
  rw[if_neg h1]at h ⊢;by_cases h2:(zg s.ino f.xs).kind=2
  case neg=>rw[if_pos h2]at h;exact absurd h (show ¬(3:Int)=0 by decide)
  rw[if_neg (fun q=>q h2)]at h ⊢;have e:=(zi (Ye h2)).2.2;by_cases h3:n = [46]
  ·rw[if_pos h3]at h ⊢;exact kO hp hq hn hl r _ dir (by rw[e];exact hp _ (hq _ h2).1) h
  rw[if_neg h3]at h ⊢;by_cases h4:n = [46,46]
  ·rw[if_pos h4]at h ⊢;exact kO hp hq hn hl r _ dir (hp _ (hq _ h2).2) h
  rw[if_neg h4]at h ⊢;split at h
  ·rename_i h5;rw[if_pos h5];exact kO hp hq hn hl r _ dir (by rw[e];exact hn _ _ h2) h
  ·rename_i h5;rw[if_neg h5];exact hl _ _ _ _ h2 h
theorem ud {f:FsV} {P:zO->Prop} {Q:Int->Prop} (hp:∀ m,Q m->P ⟨0,[],m⟩) (h1:Q 1) (hq:∀ m,(zg m f.xs).kind=2->Q m/\Q (zg m f.xs).parent) (hn:∀ m n,(zg m f.xs).kind=2->P ⟨m,n,zP n (zg m f.xs).es⟩) {follow:Bool}:∀ (k:Nat) (l:Xk) (s:zO) (dir:Bool),P s->(onN f follow k l s dir).2=0->P (onN f follow k l s dir).1
 | 0,l,s,dir,hs,h=>kO hp hq hn (fun _ _ _ _ _ h=>absurd h (show ¬(6:Int)=0 by decide)) l s dir hs h
 | k+1,l,s,dir,hs,h=>kO hp hq hn (fun x m r dir h2 h=>by
   split at h
   ·exact absurd h (show ¬(7:Int)=0 by decide)
   ·rename_i hg;rw[if_neg hg];refine ud hp h1 hq hn k _ _ _ (hp _ ?_) h;split
    ·exact h1
    ·rw[(zi (Ye h2)).2.2];exact (hq _ h2).1) l s dir hs h
theorem zaL {P:zO->Prop} {Q:Int->Prop} (hp:∀ m,Q m->P ⟨0,[],m⟩) (h1:Q 1) (hq:∀ m,(zg m f.xs).kind=2->Q m/\Q (zg m f.xs).parent) (hn:∀ m n,(zg m f.xs).kind=2->P ⟨m,n,zP n (zg m f.xs).es⟩) {b p:Lz} {follow:Bool} (h:(zx f b p follow).2=0):P (zx f b p follow).1:=by
 unfold zx at h ⊢;by_cases a:p = []
 ·rw[if_pos a]at h;exact absurd h (show ¬(1:Int)=0 by decide)
 rw[if_neg a]at h ⊢;by_cases c:X3 p=true
 ·rw[if_pos c]at h;exact absurd h (show ¬(7:Int)=0 by decide)
 rw[if_neg c]at h ⊢;by_cases e:Hy p=true
 ·rw[if_pos e]at h ⊢;exact ud hp h1 hq hn _ _ _ _ (hp _ h1) h
 rw[if_neg e]at h ⊢;by_cases g:(Jt f b).2≠0
 ·rw[if_pos g]at h;exact absurd h g
 rw[if_neg g]at h ⊢;refine ud hp h1 hq hn _ _ _ _ (hp _ ?_) h;have g:=Wy.1 g;unfold Jt at g ⊢;by_cases i:(atV f b).2≠0
 ·rw[if_pos i]at g;exact absurd g i
 rw[if_neg i]at g ⊢;by_cases j:(atV f b).1.ino=0
 ·rw[if_pos j]at g;exact absurd g (show ¬(1:Int)=0 by decide)
 rw[if_neg j]at g ⊢;by_cases k:(zg (atV f b).1.ino f.xs).kind=2
 ·rw[if_neg (fun q=>q k)];show Q (zg _ f.xs).ino;rw[(zi (Ye k)).2.2];exact (hq _ k).1
 ·rw[if_pos k]at g;exact absurd g (show ¬(3:Int)=0 by decide)
theorem xc {p:Lz} {follow:Bool} (h:(zx f b p follow).2=0):zmB f (zx f b p follow).1:=
 zaL (P:=zmB f) (Q:=fun _=>True) (fun _ _=>.inl rfl) trivial (fun _ _=>⟨trivial,trivial⟩) (fun m n h=>.inr ⟨Ye h,h,rfl⟩) h
def lkN (f:FsV) (follow:Bool):Nat->zn->zn->Xk->Bool->zO×Int
 | 0=>fun _ _ _ _=>(qk,6)
 | k+1=>fun x d r dir=>if X3 x.data then (qk,7) else onN f follow k (zm x.data++r) ⟨0,[],if Hy x.data then 1 else d.ino⟩ (dir||(ja x.data&&decide (r = [])))
theorem U7 (f:FsV) (follow:Bool) (k:Nat):onN f follow k=onL f follow (lkN f follow k):=by cases k<;>rfl
theorem QS (f:FsV) (follow:Bool) (k:Nat) (x d:zn) (r:Xk) (dir:Bool):lkN f follow (k+1) x d r dir=if X3 x.data then (qk,7) else onN f follow k (zm x.data++r) ⟨0,[],if Hy x.data then 1 else d.ino⟩ (dir||(ja x.data&&decide (r = []))):=rfl
end
section
open Go.RowKit
section
variable {G:zp}
theorem QI {bx:List (List C)} {i n cap:Nat} {rows:List (List C)} {cs:List C} (hb:bx[i]?=some cs) (hn:rows.length=n) (hc:n<=cap) (hm:cap<=9223372036854775807) (hk:∀ r∈rows,r.length=k) (hs:jl rows) (ht:cs.take (n*k)=rows.flatten):Yf bx (.bs i 0 k n cap) (.sl k rows):=by
 unfold Yf;exact ⟨rows,cs,rfl,hn,hc,by unfold maxLen;omega,hb,hk,by rw[AQ,ht,kD (Y9 hs)]⟩
end
end
section
open Go.RowKit
theorem Qh {f:FsV} (hs:FsS f) {follow:Bool} {lk:zn->zn->Xk->Bool->zO×Int} (hl:∀ x d r dir,x.data.length<=10000->(∀ y∈r,y.length<=100000)->(lk x d r dir).1.name.length<=100000):∀ (l:Xk) (s:zO) (dir:Bool),(∀ y∈l,y.length<=100000)->s.name.length<=100000->(onL f follow lk l s dir).1.name.length<=100000
 | [],s,dir,hy,h=>by
  unfold onL;split
  ·exact Wc _
  ·exact h
 | n :: r,s,dir,hy,h=>by
  have hr:∀ y∈r,y.length<=100000:=fun y q=>hy y (Wl _ q);unfold onL;split
  ·exact Wc _
  split
  ·exact Wc _
  split
  ·exact Qh hs hl r _ dir hr (Wc _)
  split
  ·exact Qh hs hl r _ dir hr (Wc _)
  split
  ·exact Qh hs hl r _ dir hr (hy n Wk)
  ·rename_i hq;refine hl _ _ _ _ ?_ hr;have hk3:(zg (zP n (zg s.ino f.xs).es) f.xs).kind=3:=Wy.1 fun q=>hq (.inr (.inl q));have hhx:zk (zP n (zg s.ino f.xs).es) f.xs=true:=by
    cases hq2:zk (zP n (zg s.ino f.xs).es) f.xs with
    | true=>rfl
    | false=>rw[(JW hq2).2]at hk3;exact absurd hk3 (by decide)
   exact (hs.node _ (zi hhx).2.1).2.1
theorem US {f:FsV} (hs:FsS f) {follow:Bool}:∀ (k:Nat) (l:Xk) (s:zO) (dir:Bool),(∀ y∈l,y.length<=100000)->s.name.length<=100000->(onN f follow k l s dir).1.name.length<=100000
 | 0,l,s,dir,hy,h=>Qh hs (fun _ _ _ _ _ _=>Wc _) l s dir hy h
 | k+1,l,s,dir,hy,h=>Qh hs (fun x d r dir hx hr=>by
   split
   ·exact Wc _
   ·refine US hs k _ _ _ (fun y q=>?_) (Wc _);rcases WG.1 q with q | q
    ·have:=(Qb x.data).2 y q;omega
    ·exact hr y q) l s dir hy h
theorem H7 (hs:FsS f) (b p:Lz) (follow:Bool) (hp:p.length<=100000):(zx f b p follow).1.name.length<=100000:=by
 have hn:∀ y∈zm p,y.length<=100000:=fun y q=>by have:=(Qb p).2 y q;omega
 unfold zx;split
 ·exact Wc _
 split
 ·exact Wc _
 split
 ·exact US hs _ _ _ _ hn (Wc _)
 split
 ·exact Wc _
 ·exact US hs _ _ _ _ hn (Wc _)
def Ul (x:zn):Bool:=decide (x.kind=3)&&decide (300<(x.data.length:Int))
def Z7 (f:FsV) (b p:Lz):Bool:=!((f.xs.take 100).any Ul)&&decide ((b.length:Int)<=1000)&&decide ((p.length:Int)<=5000)
theorem zdH (f:FsV) (b p:Lz):Fun Tryz.prog G0 30 [.agg (fsC f),.str b,.str p] (qM (Z7 f b p)) 0:=by
 have hll:(zu f.xs).length=f.xs.length:=We ..;refine fon Tryz.func30 ?_;dsimp only[Tryz.f30];push_cast;refine loop (fun i:Nat=>⟨[(1,.str b),(2,.str p),(3,.ptr 0 0),(7,.sc (.int .i64 i))],[fsC f],0,0⟩) (fun i=>i<=100/\∀ t (h:t<f.xs.length),t<i->Ul f.xs[t]=false) (fun i=>100-i) 0 ⟨Wc _,fun t h h'=>absurd h' (OK _)⟩ ?_ ?_
 ·exact wk
 ·rintro i ⟨h1,h2⟩;have hend:¬(i<f.xs.length/\i<100)->(f.xs.take 100).any Ul=false:=fun h=>by
   rw[Om];intro x hx;obtain ⟨t,ht,rfl⟩:=WF hx;rw[W6]at ht;rw[List.getElem_take,h2 t (by omega) (by omega)];decide
  have stop:¬(i<f.xs.length/\i<100)->(decide ((b.length:Int)<=1000)&&decide ((p.length:Int)<=5000))=Z7 f b p:=fun h=>by
   unfold Z7;rw[hend h];rfl
  by_cases h:i<f.xs.length
  ·by_cases h100:i<100
   ·have g1:=js f.xs i h;have h100':(i:Int)<100:=by omega
    have hm:f.xs[i]∈f.xs.take 100:=by
     rw[AJ];exact ⟨i,by omega,rfl⟩
    have next:Ul f.xs[i]=false->∀ t (h:t<f.xs.length),t<i+1->Ul f.xs[t]=false:=fun q t ht hlt=>by
     rcases Wr t i with r | r
     ·exact h2 t ht r
     ·have:t=i:=by omega
      subst this;exact q
    by_cases hk:f.xs[i].kind=3
    ·by_cases hd:300<(f.xs[i].data.length:Int)
     ·have hn:Z7 f b p=false:=by
       have:(f.xs.take 100).any Ul=true:=OA.2 ⟨_,hm,by unfold Ul;rw[Wo hk,Wo hd];rfl⟩;unfold Z7;rw[this];rfl
      push_cast [hll,h,h100',g1,hk,hd]
      repeat refine an ?_
      exact dn (by push_cast [ze,zd,CLe,zf,hn])
     ·have hq:Ul f.xs[i]=false:=by unfold Ul;rw[Wp hd,O9]
      push_cast [hll,h,h100',g1,hk,hd]
      repeat refine an ?_
      exact ⟨i+1,⟨by omega,next hq⟩,by omega,wk⟩
    ·have hq:Ul f.xs[i]=false:=by unfold Ul;rw[Wp hk,Oa]
     push_cast [hll,h,h100',g1,hk]
     repeat refine an ?_
     exact ⟨i+1,⟨by omega,next hq⟩,by omega,wk⟩
   ·have h100':((i:Int)<100)=False:=WH (by omega);have:=(stop (by omega)).symm;by_cases hb:(b.length:Int)<=1000
    ·rw[Wo hb,Ol]at this;push_cast [hll,h,h100',hb];exact dn (by push_cast [ze,zd,CLe,zf,this])
    ·rw[Wp hb,Oa]at this;push_cast [hll,h,h100',hb];exact dn (by push_cast [ze,zd,CLe,zf,this])
  ·have:=(stop (by omega)).symm;by_cases hb:(b.length:Int)<=1000
   ·rw[Wo hb,Ol]at this;push_cast [hll,h,hb];exact dn (by push_cast [ze,zd,CLe,zf,this])
   ·rw[Wp hb,Oa]at this;push_cast [hll,h,hb];exact dn (by push_cast [ze,zd,CLe,zf,this])
end
section
theorem zl3 (hi:FsI f) (hr:FsR f) {n:Int} (hh:zk n f.xs=true) (hk:(zg n f.xs).kind=2):zk (zg n f.xs).parent f.xs=true:=by
 have g:=zi hh;by_cases h1:n=1
 ·rw[(hr.node _ g.2.1).top (by rw[g.2.2];exact h1)];exact hi.root
 ·have hl:=(hr.node _ g.2.1).named (by rw[g.2.2];exact h1);rw[FsR.links hi g.2.1,g.2.2]at hl;obtain ⟨p,hp⟩:=zag (n:=n) (l:=qm f.xs) (by omega);obtain ⟨y,hy,e,he,q1,q2⟩:=Vw.1 hp;obtain ⟨rk,hed⟩:=hr.edge;have:=(hed y hy e he (by rw[q1];exact hk)).1;rw[q1]at this;rw[this];exact Yk hy
end
section
def HB (xs:List zn):Prop:=∀ x∈xs,x.kind=3->x.data.length<=1000
theorem Nz (h:HB xs) (n:Int):(zg n xs).kind=3->(zg n xs).data.length<=1000:=fun hk=>by
 cases hh:zk n xs with
 | true=>exact h _ (zi hh).2.1 hk
 | false=>rw[(JW hh).2]at hk;exact absurd hk (by decide)
theorem ke {x:zn} (h:HB xs) (hx:x.kind=3->x.data.length<=1000):HB (qv x xs):=fun z hz hk=>by
 rcases zov hz with rfl | hz
 ·exact hx hk
 ·exact h z hz hk
theorem zfO (h:zk n xs=false):zg n xs=Mg:=by unfold zg;rw[(JW h).1];rfl
end
section
theorem kF (h:HB xs) (n:Int) (F:List z6->List z6):HB (qr n F xs):=ke h (Nz h n)
theorem GR (h:HB w.fs.xs) {p:Lz} {k:Int} {t:Lz} (ht:k=3->t.length<=1000):HB (YG w p k t).1.fs.xs:=by
 unfold YG;split
 ·exact h
 ·show HB (Hw _ _ _ _).1.xs;rcases QR w.fs (isV w.fs p false).1 k t with e | e
  ·rw[e];exact h
  ·rw[e];exact ke (kF h _ _) ht
theorem zdx (s:zO) (h:HB f.xs):HB (zI f s).xs:=by
 have hd:HB (qr s.dir (zj s.name) f.xs):=kF h _ _;unfold zI;split
 ·exact fun z hz hk=>hd z (Xo.1 hz).1 hk
 ·exact ke hd (Nz h s.ino)
theorem ziC (a b:zO) (h:HB f.xs):HB (QY f a b).xs:=by
 have hd:=kF (kF h a.dir (zj a.name)) b.dir (zW b.name a.ino);unfold QY;simp only;split
 ·exact ke hd (Nz hd a.ino)
 ·exact hd
theorem zpI (h:HB w.fs.xs) (o:OpV) (hd:o.d.length<=1000) (h3:o.kind≠3):HB (doV w o).1.fs.xs:=by
 unfold doV;by_cases c0:(!Mo o)=true
 ·rw[if_pos c0];exact h
 rw[if_neg c0];by_cases c1:o.kind=1
 ·rw[if_pos c1];exact GR h fun q=>by cases q
 rw[if_neg c1];by_cases c2:o.kind=2
 ·rw[if_pos c2];unfold VR;split
  ·exact h
  ·exact GR h fun q=>by cases q
 rw[if_neg c2,if_neg h3];by_cases c4:o.kind=4
 ·rw[if_pos c4];exact GR h fun _=>hd
 rw[if_neg c4];by_cases c5:o.kind=5
 ·rw[if_pos c5];unfold jV;simp only;split
  ·exact h
  split
  ·exact h
  split
  ·exact h
  ·exact ke (kF h _ _) (Nz h _)
 rw[if_neg c5];by_cases c6:o.kind=6
 ·rw[if_pos c6];unfold Gv;split
  ·exact h
  split
  ·exact h
  ·exact ziC _ _ h
 rw[if_neg c6];unfold jb;simp only;split
 ·exact h
 split
 ·exact h
 ·unfold XN;split
  ·exact h
  ·exact zdx _ h
structure GrD (N:Nat) (d:qn):Prop where
 b:VY N d
 r:uw d.w
 next:d.w.fs.next<=549755813888+N
 dat:HB d.w.fs.xs
theorem yE.mono {M:Nat} (h:yE N w) (hN:N<=M):yE M w:=by
 have key:∀ x,Hr N x->Hr M x:=fun x hx=>⟨WM hx.1 hN,hx.2⟩;exact ⟨WM h.len hN,fun x hx=>key x (h.node x hx),WM h.klen hN,h.kdata,WM h.plen hN,fun x hx=>key x (h.pnode x hx),by have:=h.next;omega,h.room⟩
theorem GrD.mono {M:Nat} (h:GrD N d) (hN:N<=M):GrD M d:=
 ⟨⟨h.b.wi,h.b.wb.mono (by omega),WM h.b.ops hN,WM h.b.diags hN,h.b.slot.1,by have:=h.b.slot.2;omega⟩,h.r,by have:=h.next;omega,h.dat⟩
theorem GrD.add (h:GrD N d) {o:OpV} (ho:o.d.length<=1000) (h3:o.kind≠3):GrD (N+1) (J9 d o).1:=by
 have hB:=zoL h.b (o:=o) (by omega);by_cases hz:(J9 d o).2=0
 case neg=>rw[MX hz]at hB ⊢;exact ⟨hB,h.r,by have:=h.next;omega,h.dat⟩
 unfold J9 at hz hB ⊢;split at hz
 ·exact absurd hz (show ¬(12:Int)=0 by decide)
 rename_i hk;rw[if_neg hk]at hB ⊢;split at hz
 ·rename_i hd;exact absurd hz hd
 rename_i hd;rw[if_neg hd]at hB ⊢;have hk7:(ZZ d o).kind<=7:=by show o.kind<=7;omega
 have hn:=zl6 d.w (ZZ d o);have hx:=h.next;exact ⟨hB,ztm h.b.wi h.r _ hk7,by show (doV d.w (ZZ d o)).1.fs.next<=_;omega,zpI h.dat _ ho h3⟩
theorem GrD.tell (h:GrD N d) (x:Lz):GrD (N+1) (qN d x):=by
 have hB:=h.b.up;exact ⟨⟨hB.wi,hB.wb,hB.ops,by show (d.diags++[x]).length<=N+1;rw[Wj,Ae];have:=h.b.diags;omega,hB.slot⟩,h.r,by have:=h.next;show d.w.fs.next<=_;omega,h.dat⟩
theorem GrD.ok (h:GrD N d) (hN:N<=3200):okM d.w.fs:=
 ⟨⟨by have:=h.b.wb.len;omega,fun x hx=>by obtain ⟨q1,q2,q3⟩:=h.b.wb.node x hx;exact ⟨q2,by omega,q3⟩⟩,h.r.fs.check h.b.wi.fs (by have:=h.next;omega)⟩
theorem zlx (h:okW w) (hd:HB w.fs.xs) (hn:w.fs.next<=549755813888) (hl:Jm w.kept<=536870912):GrD 0 (uN w):=
 ⟨⟨zpP h,ziM h,Wb _,Wb _,(kJ h.2.2.2.2.1).1,by show Jm w.kept<=_;omega⟩,zr1 h,by show w.fs.next<=_;omega,hd⟩
theorem zbk (h:okM f) {s:zO} (hh:zk s.dir f.xs=true) (hk:(zg s.dir f.xs).kind=2) (hm:may s.name=true):(zE f s).length<=990000:=by
 obtain ⟨ns,n1,n2,n3,n4,n5⟩:=zlB h hh hk;have hml:=NV hm;have hjw:=Qj ns;have hjl:(qS ns).length<=980001:=by unfold qS;split<;>simp<;>omega
 have e:zE f s=Hc (qS ns) s.name:=by unfold zE;rw[n5];rfl
 have:=zeP (qS ns) s.name;rw[e];omega
theorem Gt {s:zO} (h:zmB f s) (hi:FsI f) (h0:zk s.ino f.xs=true) (hn:s.name≠[]):zX f s:=by
 rcases h with h | ⟨h1,h2,h3⟩
 ·exact absurd h hn
 ·have h0:=Uh hi h0;refine ⟨h1,h2,?_⟩;have he:Xu s.name (zg s.dir f.xs).es=true:=by
   unfold Xu;rw[jq];cases hq:jO z6.name s.name (zg s.dir f.xs).es with
   | some e=>rfl
   | none=>unfold zP at h3;rw[hq]at h3;exact absurd h3 h0
  rw[YV he,←h3]
theorem kP (hr:FsR f) {s:zO} (hs:zX f s):may s.name=true:=(hr.node _ (zi hs.has).2.1).nam ⟨s.name,s.ino⟩ (ql hs.there).2
end
section
def Q7 (f:FsV) (b p:Lz):Bool:=decide ((zx f b p true).2=0)&&decide ((zg (zx f b p true).1.ino f.xs).kind=2)
def Gb (f:FsV) (b:Lz) (k:Int) (o p:Lz):Bool:=decide (k=3)&&decide ((110:UInt8)∈o)&&decide ((zx f b p false).2=0)&&decide ((zg (zx f b p false).1.ino f.xs).kind=3)
def Hh (f:FsV) (b:Lz) (k:Int) (o:Lz) (ops:List Lz):Bool:=
 !decide (ops.length<2)&&!decide ((84:UInt8)∈o)&&!Gb f b k o (ops.getLastD [])&&Q7 f b (ops.getLastD [])
def zR (f:FsV) (b:Lz) (k:Int) (o:Lz) (ops:List Lz):Option (List Lz):=
 if ops.length=1 then some [J7 (ops.headD [])] else if Hh f b k o ops then some (ops.dropLast.map fun p=>J0 (ops.getLastD []) (J7 p))
 else if ops.length=2 then some [ops.getLastD []] else none
theorem GT (p:Lz):(J7 p).length<=p.length+1:=by
 unfold J7;rcases AM (zm p) with e | ⟨l,x,e⟩
 ·rw[e];show (if Lib.hasPrefix p [47] then [47] else ([]:Lz)).length<=_;split<;>simp
 ·have:=(Qb p).2 x (by rw[e,Au];simp);rw[e,Au,List.getLastD_concat];omega
theorem GJ {k:Int} {o:Lz} {ops ps:List Lz} (h:zR f b k o ops=some ps) (hp:∀ x∈ops,x.length<=1000):ps.length<=ops.length/\∀ x∈ps,x.length<=2003:=by
 have hl:(ops.getLastD []).length<=1000:=by
  rcases AM ops with e | ⟨l,x,e⟩
  ·rw[e];exact Wc _
  ·rw[e,Au,List.getLastD_eq_getLast?,BJ];simp;exact hp x (by rw[e];simp)
 unfold zR at h;split at h
 ·cases h;have hh:(ops.headD []).length<=1000:=by
   cases ops with
   | nil=>exact Wc _
   | cons x r=>exact hp x Wk
  have:=GT (ops.headD []);exact ⟨by simp;omega,fun x hx=>by rw[Ob.1 hx];omega⟩
 split at h
 ·cases h;refine ⟨by simp,fun x hx=>?_⟩;obtain ⟨y,hy,rfl⟩:=WR.1 hx;have h1:=hp y (BK _ hy);have h2:=GT y;generalize ops.getLastD []=z at *;unfold J0;split<;>simp<;>omega
 split at h
 ·cases h;exact ⟨by simp;omega,fun x hx=>by rw[Ob.1 hx];omega⟩
 ·cases h
end
section
def Vr (u:Lz):Int:=if u = [] then 1 else if (u.any fun b=>decide (b=0))=true then 9 else 0
def JX (f:FsV) (b:Lz) (soft:Bool) (u:Lz):zO×Int×Int:=
 if soft then (qk,8,Vr u)
 else if (zx f b u false).2≠0 then ((zx f b u false).1,5,(zx f b u false).2)
 else if zk (zx f b u false).1.ino f.xs=false then ((zx f b u false).1,5,1)
 else if (zg (zx f b u false).1.ino f.xs).kind=2 then ((zx f b u false).1,6,4)
 else ((zx f b u false).1,0,0)
def Gg (o:Lz) (x:zn):Int:=if (102:UInt8)∈o then (if x.kind=2 then 4 else 0) else 2
def H6 (t:zO) (v:Lz):Int:=if ja v then 1 else if may t.name then 0 else 9
def Zd (f:FsV) (b o v:Lz):Int:=
 if (zx f b v false).2≠0 then (zx f b v false).2
 else if zk (zx f b v false).1.ino f.xs then Gg o (zg (zx f b v false).1.ino f.xs) else H6 (zx f b v false).1 v
def zmu (soft:Bool) (f:FsV) (a t:zO) (u:Lz):OpV:=if soft then Qa (zE f t) u else Qk (zE f a) (zE f t)
def Zu (d:qn) (t:zO):qn:=if zk t.ino d.w.fs.xs then (J9 d (zaF (zE d.w.fs t))).1 else d
def zru (k:Int) (soft:Bool) (d:qn) (a t:zO) (u v:Lz):qn:=
 if (J9 (Zu d t) (zmu soft d.w.fs a t u)).2≠0 then qN (J9 (Zu d t) (zmu soft d.w.fs a t u)).1 (Jf k (if soft then 8 else 7) u v (J9 (Zu d t) (zmu soft d.w.fs a t u)).2)
 else (J9 (Zu d t) (zmu soft d.w.fs a t u)).1
def Us (k:Int) (b o:Lz) (d:qn) (u v:Lz):qn:=
 let soft:=decide ((115:UInt8)∈o)
 let s:=JX d.w.fs b soft u
 let t:=(zx d.w.fs b v false).1
 if s.2.2≠0 then qN d (Jf k s.2.1 u v s.2.2)
 else if Zd d.w.fs b o v≠0 then qN d (Jf k (if soft then 8 else 7) u v (Zd d.w.fs b o v))
 else if zk t.ino d.w.fs.xs=true/\soft=false/\s.1.ino=t.ino then qN d (Jf k 9 u v 0)
 else zru k soft d s.1 t u v
def zbQ (k:Int) (b o:Lz) (l:List (Lz×Lz)) (d:qn):qn:=l.foldl (fun d p=>Us k b o d p.1 p.2) d
def zjU (k:Int) (b o:Lz) (ops:List Lz) (d:qn):qn:=
 match zR d.w.fs b k o ops with
 | none=>qN d (Jf k 10 (ops.getLastD []) [] 0)
 | some ps=>zbQ k b o (ops.zip ps) d
theorem zfy (h:GrD N d) (t:zO):GrD (N+1) (Zu d t):=by
 unfold Zu;split
 ·exact h.add (Wc _) (show ¬(7:Int)=3 by decide)
 ·exact h.mono (Nat.le_succ _)
theorem zlp {soft:Bool} {a t:zO} {u:Lz} (hu:u.length<=1000):(zmu soft f a t u).d.length<=1000/\(zmu soft f a t u).kind≠3:=by
 unfold zmu;cases soft with
 | true=>exact ⟨hu,show ¬(4:Int)=3 by decide⟩
 | false=>exact ⟨Wc _,show ¬(5:Int)=3 by decide⟩
theorem zhx (h:GrD N d) (k:Int) (b o u v:Lz) (hu:u.length<=1000):GrD (N+3) (Us k b o d u v):=by
 unfold Us;dsimp only;split
 ·exact (h.tell _).mono (by omega)
 split
 ·exact (h.tell _).mono (by omega)
 split
 ·exact (h.tell _).mono (by omega)
 unfold zru;have h1:=(zfy h (zx d.w.fs b v false).1).add (zlp (soft:=decide ((115:UInt8)∈o)) (f:=d.w.fs) (a:=(JX d.w.fs b (decide ((115:UInt8)∈o)) u).1) (t:=(zx d.w.fs b v false).1) hu).1 (zlp hu).2;split
 ·exact h1.tell _
 ·exact h1.mono (by omega)
theorem zaM {u:Lz} (h:(JX f b false u).2.2=0):(JX f b false u).1=(zx f b u false).1/\(zx f b u false).2=0/\zk (zx f b u false).1.ino f.xs=true/\(zg (zx f b u false).1.ino f.xs).kind≠2:=by
 unfold JX at h ⊢;simp only[WN,W2]at h ⊢;by_cases h1:(zx f b u false).2≠0
 ·rw[if_pos h1]at h;exact absurd h h1
 rw[if_neg h1]at h ⊢;by_cases h2:zk (zx f b u false).1.ino f.xs=false
 ·rw[if_pos h2]at h;exact absurd h (show ¬(1:Int)=0 by decide)
 rw[if_neg h2]at h ⊢;by_cases h3:(zg (zx f b u false).1.ino f.xs).kind=2
 ·rw[if_pos h3]at h;exact absurd h (show ¬(4:Int)=0 by decide)
 rw[if_neg h3];exact ⟨rfl,Wy.1 h1,by simpa using h2,h3⟩
theorem zig {o v:Lz} (h:Zd f b o v=0):(zx f b v false).2=0/\(zk (zx f b v false).1.ino f.xs=true->(zg (zx f b v false).1.ino f.xs).kind≠2)/\(zk (zx f b v false).1.ino f.xs=false->may (zx f b v false).1.name=true):=by
 unfold Zd at h;by_cases h1:(zx f b v false).2≠0
 ·rw[if_pos h1]at h;exact absurd h h1
 rw[if_neg h1]at h;refine ⟨Wy.1 h1,fun q=>?_,fun q=>?_⟩
 ·rw[q,if_pos rfl]at h;unfold Gg at h;intro z;rw[if_pos z]at h;split at h
  ·exact absurd h (show ¬(4:Int)=0 by decide)
  ·exact absurd h (show ¬(2:Int)=0 by decide)
 ·rw[q,if_neg (by simp)]at h;unfold H6 at h;split at h
  ·exact absurd h (show ¬(1:Int)=0 by decide)
  ·split at h
   ·assumption
   ·exact absurd h (show ¬(9:Int)=0 by decide)
end
section
open CA CB
open Go.RowKit
theorem zcw (f:FsV) (hf:FsI f) (hs:FsS f) (p:Lz) (hp:p.length<=100000):Fun Tryz.prog G0 178 [.agg (fsC f),.str p] (.tup [.agg (YB (qP f p).1),.sc (.int .i64 (qP f p).2)]) 0:=by
 have h1:=NX f hf hs p (by omega);have h2:=jp (G:=G0) f (atV f p).1.ino (by have:=hs.len;omega) hf.rises;by_cases c1:(atV f p).2=0
 ·have c1':=eq_true c1;cases hh:zk (atV f p).1.ino f.xs with
  | false =>
   have h0:(atV f p).1.ino=0:=AI fun hne=>by
    have:zk (atV f p).1.ino f.xs=true:=by
     unfold atV at hne ⊢;split at hne
     ·rename_i q;rw[if_pos q];exact vY hf _ _ (fun _=>hf.root) hne
     ·exact absurd rfl hne
    rw[this]at hh;cases hh
   have e:qP f p=(Mg,1):=by unfold qP;rw[if_neg (fun h=>h c1),if_pos h0]
   rw[c1]at h1;rw[hh]at h2;refine fon Tryz.func178 ?_;dsimp only[Tryz.f178];push_cast;refine cl h1 ?_;push_cast;refine cl h2 ?_;push_cast;exact dn (by push_cast [ze,zd,CLe,zf,e,Mg])
  | true =>
   have h0:=Uh hf hh;have e:qP f p=(zg (atV f p).1.ino f.xs,0):=by unfold qP;rw[if_neg (fun h=>h c1),if_neg h0]
   rw[c1]at h1;rw[hh]at h2;refine fon Tryz.func178 ?_;dsimp only[Tryz.f178];push_cast;refine cl h1 ?_;push_cast;refine cl h2 ?_;push_cast;exact dn (by push_cast [ze,zd,CLe,zf,e])
 ·have e:qP f p=(Mg,(atV f p).2):=by unfold qP;rw[if_pos c1]
  refine fon Tryz.func178 ?_;dsimp only[Tryz.f178];push_cast;refine cl h1 ?_;push_cast [c1];exact dn (by push_cast [ze,zd,CLe,zf,e,Mg])
theorem zgE (f:FsV) (hf:FsI f) (hs:FsS f) (p:Lz) (hp:p.length<=100000):Fun Tryz.prog G0 150 [.agg (fsC f),.str p] (.tup [.sc (.int .i64 (Jt f p).1),.sc (.int .i64 (Jt f p).2)]) 0:=by
 have h1:=zcw f hf hs p hp;by_cases c1:(qP f p).2=0
 ·have d1:(atV f p).2=0/\(atV f p).1.ino≠0/\(qP f p).1=zg (atV f p).1.ino f.xs:=by
   unfold qP at c1 ⊢;split at c1
   ·rename_i h;exact absurd c1 h
   ·rename_i h;split at c1
    ·exact absurd c1 (show ¬(1:Int)=0 by decide)
    ·rename_i h';rw[if_neg h,if_neg h'];exact ⟨Wy.1 h,h',rfl⟩
  rw[c1]at h1;by_cases c2:(qP f p).1.kind=2
  ·have e:Jt f p=((qP f p).1.ino,0):=by unfold Jt;rw[if_neg (fun h=>h d1.1),if_neg d1.2.1,if_neg (by rw[←d1.2.2];exact fun h=>h c2),d1.2.2]
   refine fon Tryz.func150 ?_;dsimp only[Tryz.f150];push_cast;refine cl h1 ?_;push_cast [c2];exact dn (by push_cast [ze,zd,CLe,zf,e])
  ·have e:Jt f p=(0,3):=by unfold Jt;rw[if_neg (fun h=>h d1.1),if_neg d1.2.1,if_pos (by rw[←d1.2.2];exact c2)]
   refine fon Tryz.func150 ?_;dsimp only[Tryz.f150];push_cast;refine cl h1 ?_;push_cast [c2];exact dn (by push_cast [ze,zd,CLe,zf,e])
 ·have e:Jt f p=(0,(qP f p).2):=by
   unfold Jt qP;unfold qP at c1;split
   ·rfl
   ·rename_i h;rw[if_neg h]at c1;split
    ·rfl
    ·rename_i h';rw[if_neg h']at c1;exact absurd rfl c1
  refine fon Tryz.func150 ?_;dsimp only[Tryz.f150];push_cast;refine cl h1 ?_;push_cast [c1];exact dn (by push_cast [ze,zd,CLe,zf,e])
theorem zgT {G:zp} (a b:List Lz) (la:a.length<=90000) (lb:b.length<=90000):Fun Tryz.prog G 75 [.sl 1 [[.sl 1 (zF a)],[.sl 1 (zF b)]]] (.sl 1 (zF (a++b))) 0:=by
 have hl:∀ l:List Lz,∀ r∈zF l,r.length=1:=fun l r hr=>by obtain ⟨x,_,rfl⟩:=WR.1 hr;rfl
 have hs:∀ l:List Lz,jl (zF l):=fun l r hr=>by obtain ⟨x,_,rfl⟩:=WR.1 hr;rfl
 have hla:(zF a).length=a.length:=We ..;have hlb:(zF b).length=b.length:=We ..;by_cases h0:0<a.length+b.length
 ·have h:=yp (G:=G) (zF a) (zF b) (hl a) (hl b) (hs a) (hs b) (by omega) (by omega) (by omega);have e:zF a++zF b=zF (a++b):=W9.symm;rw[e]at h;refine (h.fun (r:=.own 0 9 1 (zF (a++b))) (n:=1) (by
   rintro r bx m ⟨rfl,c,B,hB,rfl,rfl⟩;exact ⟨[(0,9,1,zF (a++b),c)],[.inl 0],hB.ok rfl (by rw[We,Wj];exact h0) (hl _),rfl,rfl,by push_cast [ze,zd,CLe,zf,We]⟩)).weak (by push_cast [ze,zd,CLe,zf])
 ·have ha:a = []:=WO (by omega);have hb:b = []:=WO (by omega);subst ha hb;exact yy
end
section
open CA CB
open Go.RowKit
abbrev zlg (f:FsV) (fol dir:Bool) (todo:Xk) (s:zO) (n:Int):List C:=[.sc (.int .i64 f.maxI),.sc (.int .i64 f.maxB),.sc (.int .i64 f.next),.sl 6 (zu f.xs),.sc (.bool fol),.sc (.bool dir),.sl 1 (zF todo),.sc (.int .i64 s.dir),.str s.name,.sc (.int .i64 s.ino),.sc (.int .i64 n)]
abbrev XL:List C:=[.any,.any,.any,.any,.any,.any,.any,.any,.any,.any,.any]
theorem Nc (f:FsV) (fol dir:Bool) (todo:Xk) (s:zO) (n:Nat) (x d:zn) (hx:x.data.length<=10000) (ht:todo.length<=80000) (hn:n<=40):Y8 Tryz.prog G0 152 [.ptr 0 0,.agg (YB x),.agg (YB d)] [zlg f fol dir todo s n] 0 (fun r bx m=>m=0 /\
  ((n=40/\r = .sc (.int .i64 6)/\bx = [XL])∨(n<40/\X3 x.data=true/\r = .sc (.int .i64 7)/\bx = [XL])∨(n<40/\X3 x.data=false/\r = .sc (.int .i64 0)/\bx = [zlg f fol (dir||(ja x.data&&decide (todo = []))) (zm x.data++todo) ⟨0,[],if Hy x.data then 1 else d.ino⟩ (n+1:Nat)]))):=by
 by_cases h40:n=40
 ·have hc:((40:Int)<(n:Int)+1)=True:=eq_true (by omega);refine foX (fun _=>[]) Tryz.func152 ?_;dsimp only[Tryz.f152];push_cast [hc]
  repeat refine an ?_
  exact ⟨_,[XL],0,⟨⟨rfl,.inl ⟨h40,rfl,rfl⟩⟩,Wb _⟩,[],rfl,rfl,by push_cast [ze,zd,CLe,zf],by push_cast [ze,zd,CLe,zf]⟩
 have hc:((40:Int)<(n:Int)+1)=False:=WH (by omega);have hlg:=zbi x.data (by omega);cases hl:X3 x.data with
 | true =>
  rw[hl]at hlg;refine foX (fun _=>[]) Tryz.func152 ?_;dsimp only[Tryz.f152];push_cast [hc]
  repeat refine an ?_
  refine cl hlg ?_;push_cast;exact ⟨_,[XL],0,⟨⟨rfl,.inr (.inl ⟨by omega,rfl,rfl⟩)⟩,Wb _⟩,[],rfl,rfl,by push_cast [ze,zd,CLe,zf],by push_cast [ze,zd,CLe,zf]⟩
 | false =>
  rw[hl]at hlg;have hrd:Fun Tryz.prog G0 107 [.str x.data] (.agg [qM (Hy x.data),.own 0 9 1 (zF (zm x.data)),qM (ja x.data)]) 1:=UK x.data (by omega);have hnl:=qx x.data;have hcc:=zgT (G:=G0) (zm x.data) todo (by omega) (by omega);have htl:(zF todo).length=todo.length:=We ..;have hte:((todo.length:Int)=0)=(todo = []):=propext ⟨fun h=>WO (by omega),fun h=>by rw[h];rfl⟩;generalize zm x.data=nm at hrd hcc;have fin:∀ (b a:Bool),(dir||(ja x.data&&decide (todo = [])))=b->Hy x.data=a->Y8 Tryz.prog G0 152 [.ptr 0 0,.agg (YB x),.agg (YB d)] [zlg f fol dir todo s n] 0 (fun r bx m=>m=0/\r = .sc (.int .i64 0)/\bx = [zlg f fol b (nm++todo) ⟨0,[],if a then 1 else d.ino⟩ (n+1:Nat)]):=fun b a hb ha=>by
   rw[ha]at hrd;by_cases ht0:todo = []
   ·have ht0':=eq_true ht0;cases dir<;>cases hs:ja x.data<;>rw[hs]at hrd hb<;>cases a
    all_goals
     simp[ht0]at hb;subst hb;refine foX (fun i=>if i=8 then [false,false,false,false,false,false,false,false,false,false,false,true] else []) Tryz.func152 ?_;dsimp only[Tryz.f152];push_cast [hc]
     repeat refine an ?_
     refine cl hlg ?_;push_cast;refine cl hrd ?_;push_cast [htl,hte,ht0'];refine cl hcc ?_;push_cast;exact ⟨_,_,0,⟨⟨rfl,rfl,rfl⟩,Wb _⟩,[],rfl,rfl,by push_cast [ze,zd,CLe,zf],by push_cast [ze,zd,CLe,zf]⟩
   ·have ht0':=WH ht0;cases dir<;>cases hs:ja x.data<;>rw[hs]at hrd hb<;>cases a
    all_goals
     simp[ht0]at hb;subst hb;refine foX (fun i=>if i=8 then [false,false,false,false,false,false,false,false,false,false,false,true] else []) Tryz.func152 ?_;dsimp only[Tryz.f152];push_cast [hc]
     repeat refine an ?_
     refine cl hlg ?_;push_cast;refine cl hrd ?_;push_cast [htl,hte,ht0'];refine cl hcc ?_;push_cast;exact ⟨_,_,0,⟨⟨rfl,rfl,rfl⟩,Wb _⟩,[],rfl,rfl,by push_cast [ze,zd,CLe,zf],by push_cast [ze,zd,CLe,zf]⟩
  have h:=fin _ _ rfl rfl;exact ⟨h.1,fun R L vs a1 a2 a3 a4 a5 a6 a7=>(h.2 R L vs a1 a2 a3 a4 a5 a6 a7).mono fun _ _=>by
   rintro ⟨r,bx,m,⟨⟨q1,q2,q3⟩,q4⟩,q5⟩;exact ⟨r,bx,m,⟨⟨q1,.inr (.inr ⟨by omega,rfl,q2,q3⟩)⟩,q4⟩,q5⟩⟩
theorem zjs (f:FsV) (hf:FsI f) (hs:FsS f) (fol dir:Bool) (todo:Xk) (s:zO) (n:Nat) (lk:zn->zn->Xk->Bool->zO×Int):Y8 Tryz.prog G0 153 [.ptr 0 0] [zlg f fol dir todo s n] 0 (fun r bx m=>m=0/\r = .tup [.agg (jL (onL f fol lk [] s dir).1),.sc (.int .i64 (onL f fol lk [] s dir).2)]/\bx = [XL]):=by
 have hg:=jp (G:=G0) f s.ino (by have:=hs.len;omega) hf.rises;cases hh:zk s.ino f.xs with
 | false =>
  have e:onL f fol lk [] s dir=(s,0):=by unfold onL;rw[if_neg (fun h=>by rw[hh]at h;cases h.1)]
  rw[hh]at hg;refine foX (fun i=>if i=1 then J4 13 14 else []) Tryz.func153 ?_;dsimp only[Tryz.f153];push_cast;refine cl hg ?_;push_cast;exact ⟨_,[XL],0,⟨⟨rfl,rfl,rfl⟩,Wb _⟩,[],rfl,rfl,by push_cast [ze,zd,CLe,zf],by push_cast [ze,zd,CLe,zf,e]⟩
 | true =>
  rw[hh]at hg;cases dir with
  | false =>
   have e:onL f fol lk [] s false=(s,0):=by unfold onL;rw[if_neg (fun h=>by cases h.2.1)]
   refine foX (fun i=>if i=1 then J4 13 14 else []) Tryz.func153 ?_;dsimp only[Tryz.f153];push_cast;refine cl hg ?_;push_cast;exact ⟨_,[XL],0,⟨⟨rfl,rfl,rfl⟩,Wb _⟩,[],rfl,rfl,by push_cast [ze,zd,CLe,zf],by push_cast [ze,zd,CLe,zf,e]⟩
  | true =>
   by_cases hk:(zg s.ino f.xs).kind=2
   ·have e:onL f fol lk [] s true=(s,0):=by unfold onL;rw[if_neg (fun h=>h.2.2 hk)]
    have hk':=eq_true hk;refine foX (fun i=>if i=1 then J4 13 14 else []) Tryz.func153 ?_;dsimp only[Tryz.f153];push_cast;refine cl hg ?_;push_cast [hk'];exact ⟨_,[XL],0,⟨⟨rfl,rfl,rfl⟩,Wb _⟩,[],rfl,rfl,by push_cast [ze,zd,CLe,zf],by push_cast [ze,zd,CLe,zf,e]⟩
   ·have e:onL f fol lk [] s true=(qk,3):=by unfold onL;rw[if_pos ⟨hh,rfl,hk⟩]
    have hk':=WH hk;refine foX (fun i=>if i=1 then J4 13 14 else []) Tryz.func153 ?_;dsimp only[Tryz.f153];push_cast;refine cl hg ?_;push_cast [hk'];exact ⟨_,[XL],0,⟨⟨rfl,rfl,rfl⟩,Wb _⟩,[],rfl,rfl,by push_cast [ze,zd,CLe,zf],by push_cast [ze,zd,CLe,zf,e,qk]⟩
theorem zhy (f:FsV) (hf:FsI f) (hr:FsR f) (hs:FsS f) (fol dir0:Bool) (todo0:Xk) (s0:zO) (ht0:todo0.length<=3000) (hd:∀ x∈f.xs,x.kind=3->x.data.length<=1000) (hs0:s0.ino≠0->zk s0.ino f.xs=true) (R:zO×Int) (hR:onN f fol 40 todo0 s0 dir0=R):Y8 Tryz.prog G0 105 [.ptr 0 0] [zlg f fol dir0 todo0 s0 (0:Nat)] 0 (fun r bx m=>m=0/\r = .tup [.agg (jL R.1),.sc (.int .i64 R.2)]/\∃ X,bx = [XL]++X):=by
 refine foX (fun i=>if i=4 then J4 13 14 else []) Tryz.func105 ?_;dsimp only[Tryz.f105];push_cast;refine loop (fun p:Xk×zO×Bool×Nat=>⟨[(0,.ptr 0 0),(2,.ptr 1 0)],[zlg f fol p.2.2.1 p.1 p.2.1 p.2.2.2,[.any,.any,.any]],0,0⟩)
  (fun p=>onN f fol (40-p.2.2.2) p.1 p.2.1 p.2.2.1=R/\p.2.2.2<=40/\p.1.length<=3000+p.2.2.2*1000/\(p.2.1.ino≠0->zk p.2.1.ino f.xs=true)) (fun p=>(41-p.2.2.2)*100000+p.1.length) (todo0,s0,dir0,0) ⟨hR,Wc _,by dsimp only;omega,hs0⟩ ?_ ?_
 ·exact wk
 rintro ⟨todo,s,dir,n⟩ ⟨hon,hn,htl,hin⟩;dsimp only at hon hn htl hin;rw[U7]at hon;cases todo with
 | nil =>
  have he:=zjs f hf hs fol dir [] s n (lkN f fol (40-n));rw[hon]at he;push_cast;refine j6 [0] [] he rfl (by decide) (by decide) (by simp) (by push_cast) rfl (fun r bx' m hp=>?_);obtain ⟨rfl,rfl,rfl⟩:=hp;push_cast;exact ⟨_,[XL],0,⟨⟨rfl,rfl,[],rfl⟩,by simp⟩,[],rfl,rfl,by push_cast [ze,zd,CLe,zf],by push_cast [ze,zd,CLe,zf]⟩
 | cons nm rest =>
  have hg:=jp (G:=G0) f s.ino (by have:=hs.len;omega) hf.rises;have hpos:((0:Int)<(rest.length:Int)+1)=True:=eq_true (by omega);have hrl:(zF rest).length=rest.length:=We ..;have hl1:((1:Int)<=(rest.length:Int)+1)=True:=eq_true (by omega);rw[Wg]at htl;unfold onL at hon;cases hh:zk s.ino f.xs with
  | false =>
   have h0:s.ino=0:=AI fun q=>by rw[hin q]at hh;cases hh
   rw[if_pos h0]at hon;rw[hh]at hg;rw[←hon];push_cast [hpos,hl1]
   repeat refine an ?_
   refine cl hg ?_;push_cast;exact ⟨_,[XL],0,⟨⟨rfl,rfl,[],rfl⟩,by simp⟩,[],rfl,rfl,by push_cast [ze,zd,CLe,zf],by push_cast [ze,zd,CLe,zf,qk]⟩
  | true =>
   have hgs:=zi hh;rw[if_neg (Uh hf hh)]at hon;rw[hh]at hg;by_cases hk2:(zg s.ino f.xs).kind=2
   case neg =>
    have hk2':=WH hk2;rw[if_pos hk2]at hon;rw[←hon];push_cast [hpos,hl1]
    repeat refine an ?_
    refine cl hg ?_;push_cast [hk2'];exact ⟨_,[XL],0,⟨⟨rfl,rfl,[],rfl⟩,by simp⟩,[],rfl,rfl,by push_cast [ze,zd,CLe,zf],by push_cast [ze,zd,CLe,zf,qk]⟩
   have hk2':=eq_true hk2;rw[if_neg (fun q=>q hk2)]at hon;by_cases n1:nm = [46]
   ·have n1':=eq_true n1;rw[if_pos n1]at hon;push_cast [hpos,hl1]
    repeat refine an ?_
    refine cl hg ?_;push_cast [hk2',n1'];exact ⟨(rest,⟨0,[],(zg s.ino f.xs).ino⟩,dir,n),⟨by dsimp only;rw[U7];exact hon,hn,by dsimp only;omega,fun _=>by dsimp only;rw[hgs.2.2];exact hh⟩,by dsimp only;omega,wk⟩
   have n1':=WH n1;rw[if_neg n1]at hon;by_cases n2:nm = [46,46]
   ·have n2':=eq_true n2;rw[if_pos n2]at hon;push_cast [hpos,hl1]
    repeat refine an ?_
    refine cl hg ?_;push_cast [hk2',n1',n2'];exact ⟨(rest,⟨0,[],(zg s.ino f.xs).parent⟩,dir,n),⟨by dsimp only;rw[U7];exact hon,hn,by dsimp only;omega,fun _=>zl3 hf hr hh hk2⟩,by dsimp only;omega,wk⟩
   have n2':=WH n2;rw[if_neg n2]at hon;have hfd:=yx (G:=G0) (zg s.ino f.xs).es nm (by have:=hs.es hh;omega) (hf.es _ hgs.2.1);have hg2:=jp (G:=G0) f (zP nm (zg s.ino f.xs).es) (by have:=hs.len;omega) hf.rises;have hin2:zP nm (zg s.ino f.xs).es≠0->zk (zP nm (zg s.ino f.xs).es) f.xs=true:=fun q=>by
    have hx:Xu nm (zg s.ino f.xs).es=true:=by
     unfold Xu;rw[jq];cases hq:jO z6.name nm (zg s.ino f.xs).es with
     | some e=>rfl
     | none=>unfold zP at q;rw[hq]at q;exact absurd rfl q
    exact kg hf hh hx
   by_cases hk3:(zg (zP nm (zg s.ino f.xs).es) f.xs).kind=3
   case neg =>
    have hk3':=WH hk3;have hg1:((0:Int)<(rest.length:Int))=((0:Int)<(rest.length:Int)):=rfl;rw[if_pos (.inr (.inl hk3))]at hon;push_cast [hpos,hl1,hk2',n1',n2',hk3']
    repeat refine an ?_
    refine cl hg ?_;push_cast [hk2',n1',n2'];refine cl hfd ?_;push_cast;refine cl hg2 ?_;push_cast [hk3',hrl];exact ⟨(rest,⟨(zg s.ino f.xs).ino,nm,zP nm (zg s.ino f.xs).es⟩,dir,n),⟨by dsimp only;rw[U7];exact hon,hn,by dsimp only;omega,hin2⟩,by dsimp only;omega,wk⟩
   have hk3':=eq_true hk3;have hx2:zk (zP nm (zg s.ino f.xs).es) f.xs=true:=by
    cases hq:zk (zP nm (zg s.ino f.xs).es) f.xs with
    | true=>rfl
    | false=>rw[(JW hq).2]at hk3;exact absurd hk3 (by decide)
   have hxe:Xu nm (zg s.ino f.xs).es=true:=by
    cases hq:Xu nm (zg s.ino f.xs).es with
    | true=>rfl
    | false =>
     have e0:zP nm (zg s.ino f.xs).es=0:=by
      unfold zP;unfold Xu at hq;rw[jq]at hq;cases hz:jO z6.name nm (zg s.ino f.xs).es with
      | none=>rfl
      | some e=>rw[hz]at hq;cases hq
     rw[e0]at hx2;exact absurd rfl (Uh hf hx2)
   have hxd:=hd _ (zi hx2).2.1 hk3;by_cases hr0:rest = []
   ·have hg1:((0:Int)<(rest.length:Int))=False:=WH (by rw[hr0];simp);cases fol with
    | false =>
     cases dir with
     | false =>
      rw[if_pos (.inr (.inr ⟨hr0,rfl,rfl⟩))]at hon;push_cast [hpos,hl1,hk2',n1',n2',hk3',hg1]
      repeat refine an ?_
      refine cl hg ?_;push_cast [hk2',n1',n2'];refine cl hfd ?_;push_cast;refine cl hg2 ?_;push_cast [hk3',hrl,hg1];exact ⟨(rest,⟨(zg s.ino f.xs).ino,nm,zP nm (zg s.ino f.xs).es⟩,false,n),⟨by dsimp only;rw[U7];exact hon,hn,by dsimp only;omega,hin2⟩,by dsimp only;omega,wk⟩
     | true =>
      rw[if_neg (by rintro (q | q | q);exact absurd (hxe.symm.trans q) (by simp);exact q hk3;cases q.2.2)]at hon;have hlk:=Nc f false true rest s n (zg (zP nm (zg s.ino f.xs).es) f.xs) (zg s.ino f.xs) (by omega) (by omega) hn;push_cast [hpos,hl1,hk2',n1',n2',hk3',hg1]
      repeat refine an ?_
      refine cl hg ?_;push_cast [hk2',n1',n2'];refine cl hfd ?_;push_cast;refine cl hg2 ?_;push_cast [hk3',hrl,hg1];refine j6 [0] [] hlk rfl (by decide) (by decide) (by simp) (by push_cast) (by push_cast) (fun r bx' m hp=>?_);obtain ⟨rfl,⟨q1,rfl,rfl⟩ | ⟨q1,q2,rfl,rfl⟩ | ⟨q1,q2,rfl,rfl⟩⟩:=hp
      ·push_cast;have hk0:40-n=0:=by omega
       rw[hk0]at hon;have hon:(qk,(6:Int))=R:=hon;rw[←hon];exact ⟨_,[XL],0,⟨⟨rfl,rfl,[],rfl⟩,by simp⟩,[],rfl,rfl,by push_cast [ze,zd,CLe,zf],by push_cast [ze,zd,CLe,zf,qk]⟩
      ·push_cast;have hk0:40-n=(39-n)+1:=by omega
       rw[hk0,QS,if_pos q2]at hon;rw[←hon];exact ⟨_,[XL],0,⟨⟨rfl,rfl,[],rfl⟩,by simp⟩,[],rfl,rfl,by push_cast [ze,zd,CLe,zf],by push_cast [ze,zd,CLe,zf,qk]⟩
      ·push_cast;have hk0:40-n=(39-n)+1:=by omega
       have hk1:40-(n+1)=39-n:=by omega
       rw[hk0,QS,if_neg (by rw[q2];simp)]at hon;have hnl:=qx (zg (zP nm (zg s.ino f.xs).es) f.xs).data;exact ⟨(zm (zg (zP nm (zg s.ino f.xs).es) f.xs).data++rest,⟨0,[],if Hy (zg (zP nm (zg s.ino f.xs).es) f.xs).data then 1 else (zg s.ino f.xs).ino⟩,true||(ja (zg (zP nm (zg s.ino f.xs).es) f.xs).data&&decide (rest = [])),n+1),⟨by dsimp only;rw[hk1];exact hon,by dsimp only;omega,by dsimp only;rw[Wj];omega,fun _=>by
        dsimp only;split
        ·exact hf.root
        ·rw[hgs.2.2];exact hh⟩,by dsimp only;rw[Wj];omega,wk⟩
    | true =>
     rw[if_neg (by rintro (q | q | q);exact absurd (hxe.symm.trans q) (by simp);exact q hk3;cases q.2.1)]at hon;have hlk:=Nc f true dir rest s n (zg (zP nm (zg s.ino f.xs).es) f.xs) (zg s.ino f.xs) (by omega) (by omega) hn;push_cast [hpos,hl1,hk2',n1',n2',hk3',hg1]
     repeat refine an ?_
     refine cl hg ?_;push_cast [hk2',n1',n2'];refine cl hfd ?_;push_cast;refine cl hg2 ?_;push_cast [hk3',hrl,hg1];refine j6 [0] [] hlk rfl (by decide) (by decide) (by simp) (by push_cast) (by push_cast) (fun r bx' m hp=>?_);obtain ⟨rfl,⟨q1,rfl,rfl⟩ | ⟨q1,q2,rfl,rfl⟩ | ⟨q1,q2,rfl,rfl⟩⟩:=hp
     ·push_cast;have hk0:40-n=0:=by omega
      rw[hk0]at hon;have hon:(qk,(6:Int))=R:=hon;rw[←hon];exact ⟨_,[XL],0,⟨⟨rfl,rfl,[],rfl⟩,by simp⟩,[],rfl,rfl,by push_cast [ze,zd,CLe,zf],by push_cast [ze,zd,CLe,zf,qk]⟩
     ·push_cast;have hk0:40-n=(39-n)+1:=by omega
      rw[hk0,QS,if_pos q2]at hon;rw[←hon];exact ⟨_,[XL],0,⟨⟨rfl,rfl,[],rfl⟩,by simp⟩,[],rfl,rfl,by push_cast [ze,zd,CLe,zf],by push_cast [ze,zd,CLe,zf,qk]⟩
     ·push_cast;have hk0:40-n=(39-n)+1:=by omega
      have hk1:40-(n+1)=39-n:=by omega
      rw[hk0,QS,if_neg (by rw[q2];simp)]at hon;have hnl:=qx (zg (zP nm (zg s.ino f.xs).es) f.xs).data;exact ⟨(zm (zg (zP nm (zg s.ino f.xs).es) f.xs).data++rest,⟨0,[],if Hy (zg (zP nm (zg s.ino f.xs).es) f.xs).data then 1 else (zg s.ino f.xs).ino⟩,dir||(ja (zg (zP nm (zg s.ino f.xs).es) f.xs).data&&decide (rest = [])),n+1),⟨by dsimp only;rw[hk1];exact hon,by dsimp only;omega,by dsimp only;rw[Wj];omega,fun _=>by
       dsimp only;split
       ·exact hf.root
       ·rw[hgs.2.2];exact hh⟩,by dsimp only;rw[Wj];omega,wk⟩
   ·have hg1:((0:Int)<(rest.length:Int))=True:=eq_true (by have:=WE.2 hr0;omega);rw[if_neg (by rintro (q | q | q);exact absurd (hxe.symm.trans q) (by simp);exact q hk3;exact hr0 q.1)]at hon;have hlk:=Nc f fol dir rest s n (zg (zP nm (zg s.ino f.xs).es) f.xs) (zg s.ino f.xs) (by omega) (by omega) hn;push_cast [hpos,hl1,hk2',n1',n2',hk3',hg1]
    repeat refine an ?_
    refine cl hg ?_;push_cast [hk2',n1',n2'];refine cl hfd ?_;push_cast;refine cl hg2 ?_;push_cast [hk3',hrl,hg1];refine j6 [0] [] hlk rfl (by decide) (by decide) (by simp) (by push_cast) (by push_cast) (fun r bx' m hp=>?_);obtain ⟨rfl,⟨q1,rfl,rfl⟩ | ⟨q1,q2,rfl,rfl⟩ | ⟨q1,q2,rfl,rfl⟩⟩:=hp
    ·push_cast;have hk0:40-n=0:=by omega
     rw[hk0]at hon;have hon:(qk,(6:Int))=R:=hon;rw[←hon];exact ⟨_,[XL],0,⟨⟨rfl,rfl,[],rfl⟩,by simp⟩,[],rfl,rfl,by push_cast [ze,zd,CLe,zf],by push_cast [ze,zd,CLe,zf,qk]⟩
    ·push_cast;have hk0:40-n=(39-n)+1:=by omega
     rw[hk0,QS,if_pos q2]at hon;rw[←hon];exact ⟨_,[XL],0,⟨⟨rfl,rfl,[],rfl⟩,by simp⟩,[],rfl,rfl,by push_cast [ze,zd,CLe,zf],by push_cast [ze,zd,CLe,zf,qk]⟩
    ·push_cast;have hk0:40-n=(39-n)+1:=by omega
     have hk1:40-(n+1)=39-n:=by omega
     rw[hk0,QS,if_neg (by rw[q2];simp)]at hon;have hnl:=qx (zg (zP nm (zg s.ino f.xs).es) f.xs).data;exact ⟨(zm (zg (zP nm (zg s.ino f.xs).es) f.xs).data++rest,⟨0,[],if Hy (zg (zP nm (zg s.ino f.xs).es) f.xs).data then 1 else (zg s.ino f.xs).ino⟩,dir||(ja (zg (zP nm (zg s.ino f.xs).es) f.xs).data&&decide (rest = [])),n+1),⟨by dsimp only;rw[hk1];exact hon,by dsimp only;omega,by dsimp only;rw[Wj];omega,fun _=>by
      dsimp only;split
      ·exact hf.root
      ·rw[hgs.2.2];exact hh⟩,by dsimp only;rw[Wj];omega,wk⟩
end
section
open CA CB
open Go.RowKit
theorem Qu (f:FsV) (hf:FsI f) (hr:FsR f) (hs:FsS f) (hd:∀ x∈f.xs,x.kind=3->x.data.length<=1000) (b p:Lz) (fol:Bool) (hb:b.length<=100000) (hp:p.length<=3000):Fun Tryz.prog G0 57 [.agg (fsC f),.str b,.str p,.sc (.bool fol)] (.tup [.agg (jL (zx f b p fol).1),.sc (.int .i64 (zx f b p fol).2)]) 0:=by
 have hlo:=zbi p (by omega);have hns:=qx p;have bad:∀ e:Int,e≠0->zx f b p fol=(qk,e)->Fun Tryz.prog G0 104 [.agg (fsC f),.str b,.str p,.sc (.bool fol)] (.tup [.any,.sc (.int .i64 e)]) 0->Fun Tryz.prog G0 57 [.agg (fsC f),.str b,.str p,.sc (.bool fol)] (.tup [.agg (jL (zx f b p fol).1),.sc (.int .i64 (zx f b p fol).2)]) 0:=fun e he hv hb=>by
  refine fon Tryz.func57 ?_;dsimp only[Tryz.f57];push_cast;refine cl hb ?_;push_cast [he];exact dn (by push_cast [ze,zd,CLe,zf,hv,qk])
 by_cases h1:p = []
 ·subst h1;refine bad 1 (by decide) (by unfold zx;rw[if_pos rfl]) ?_;refine fon Tryz.func104 ?_;dsimp only[Tryz.f104];push_cast;exact dn
 have h1':=WH h1;cases h2:X3 p with
 | true =>
  rw[h2]at hlo;refine bad 7 (by decide) (by unfold zx;rw[if_neg h1,if_pos h2]) ?_;refine fon Tryz.func104 ?_;dsimp only[Tryz.f104];push_cast [h1'];refine cl hlo ?_;push_cast;exact dn
 | false =>
 rw[h2]at hlo;have hre:Fun Tryz.prog G0 107 [.str p] (.agg [qM (Hy p),.own 0 9 1 (zF (zm p)),qM (ja p)]) 1:=UK p (by omega);have good:∀ h:Int,zx f b p fol=onN f fol 40 (zm p) ⟨0,[],h⟩ (ja p)->(h≠0->zk h f.xs=true)->Y8 Tryz.prog G0 104 [.agg (fsC f),.str b,.str p,.sc (.bool fol)] [] 0 (fun r bx m=>m=0/\r = .tup [.ptr 2 0,.sc (.int .i64 0)]/\bx = [[.any,.any,.any,.any],[.any,.any,.any],zlg f fol (ja p) (zm p) ⟨0,[],h⟩ (0:Nat)])->Fun Tryz.prog G0 57 [.agg (fsC f),.str b,.str p,.sc (.bool fol)] (.tup [.agg (jL (zx f b p fol).1),.sc (.int .i64 (zx f b p fol).2)]) 0:=fun h hv hh hbg=>by
  have hgo:=zhy f hf hr hs fol (ja p) (zm p) ⟨0,[],h⟩ (by omega) hd hh _ hv.symm;refine fon Tryz.func57 ?_;dsimp only[Tryz.f57];push_cast;refine j6 [] [] hbg rfl (by decide) (by decide) (by simp) (by push_cast) rfl (fun r bx' m hp=>?_);obtain ⟨rfl,rfl,rfl⟩:=hp;push_cast;refine j6 [4] [] hgo rfl (by decide) (by decide) (by simp) (by push_cast) rfl (fun r bx' m hp=>?_);obtain ⟨rfl,rfl,X,rfl⟩:=hp;push_cast;exact dn
 cases h3:Hy p with
 | true =>
  rw[h3]at hre;refine good 1 (by unfold zx;rw[if_neg h1,if_neg (by rw[h2];decide),if_pos h3]) (fun _=>hf.root) ?_;refine foX (fun _=>[]) Tryz.func104 ?_;dsimp only[Tryz.f104];push_cast [h1'];refine cl hlo ?_;push_cast;refine cl hre ?_;push_cast;exact ⟨_,[_,_,_],0,⟨⟨rfl,rfl,rfl⟩,Wc _⟩,[],rfl,rfl,by push_cast [ze,zd,CLe,zf],by push_cast [ze,zd,CLe,zf]⟩
 | false =>
  rw[h3]at hre;have hh:=zgE f hf hs b hb;by_cases h4:(Jt f b).2=0
  ·rw[h4]at hh;refine good (Jt f b).1 (by unfold zx;rw[if_neg h1,if_neg (by rw[h2];decide),if_neg (by rw[h3];decide),if_neg (fun q=>q h4)]) (fun hne=>?_) ?_
   ·unfold Jt at hne h4 ⊢;split at hne
    ·exact absurd rfl hne
    rename_i c1;rw[if_neg c1]at h4 ⊢;split at hne
    ·exact absurd rfl hne
    rename_i c2;rw[if_neg c2]at h4 ⊢;split at hne
    ·exact absurd rfl hne
    rename_i c3;rw[if_neg c3];have q:=Ye (Wy.1 c3);rw[(zi q).2.2];exact q
   ·refine foX (fun _=>[]) Tryz.func104 ?_;dsimp only[Tryz.f104];push_cast [h1'];refine cl hlo ?_;push_cast;refine cl hre ?_;push_cast;refine cl hh ?_;push_cast;exact ⟨_,[_,_,_],0,⟨⟨rfl,rfl,rfl⟩,Wc _⟩,[],rfl,rfl,by push_cast [ze,zd,CLe,zf],by push_cast [ze,zd,CLe,zf]⟩
  ·refine bad _ h4 (by unfold zx;rw[if_neg h1,if_neg (by rw[h2];decide),if_neg (by rw[h3];decide),if_pos h4]) ?_;refine fon Tryz.func104 ?_;dsimp only[Tryz.f104];push_cast [h1'];refine cl hlo ?_;push_cast;refine cl hre ?_;push_cast;refine cl hh ?_;push_cast [h4];exact dn
end
end Go.Proofs.YtaipngaejfndgaaGreatDoor.Vcg
