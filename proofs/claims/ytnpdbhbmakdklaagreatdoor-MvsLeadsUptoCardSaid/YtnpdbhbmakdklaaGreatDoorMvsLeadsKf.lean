/- What the proof of MvsLeads leans on, part 6. No condition beyond what each theorem states. -/
import Derived.Test.YtnpdbhbmakdklaaGreatDoorMvsLeadsKe
import Derived.Lib.IndexLaws
set_option linter.unusedVariables false
set_option linter.unusedSimpArgs false
set_option linter.unusedSectionVars false
set_option maxRecDepth 100000
set_option maxHeartbeats 4000000
namespace Go.Proofs.YtnpdbhbmakdklaaGreatDoor.Vcg
variable {w:qj} {l:List Lz} {b:Lz} {N K:Nat} {d:zX}
section
open CA CB
open Go.RowKit
theorem Z9 {G:zu} (w:qj) (n:Int) (hl:w.kept.length<=90000):Fun Tryz.prog G 144 [jP w,.sc (.int .i64 n)] (jP { w with kept:=jh zL.slot n w.kept }) 0:=by
 obtain ⟨f,ks,pool⟩:=w;have hl:ks.length<=90000:=hl;have hll:(zI ks).length=ks.length:=We ..;show Fun Tryz.prog G 144 [jP ⟨f,ks,pool⟩,.sc (.int .i64 n)] (jP ⟨f,jh zL.slot n ks,pool⟩) 0;refine fon Tryz.func144 ?_;dsimp only[Tryz.f144];push_cast;refine loop (fun i:Nat=>⟨[(1,.sc (.int .i64 n)),(2,.ptr 0 0),(4,.ptr 1 0),(5,.own 0 105 4 (zI (jh zL.slot n (ks.take i)))),(6,.sc (.int .i64 i))],[Uc ⟨f,ks,pool⟩,[.sc (.int .i64 0),.sc (.int .i64 0),.sc (.int .i64 0),.sc (.slice none 0 0),.sc (.slice none 0 0),.sc (.slice none 0 0)]],1,0⟩) (fun i=>i<=ks.length) (fun i=>ks.length-i) 0 (Wb _) ?_ ?_
 ·exact wks [.inr (105,4)] (by push_cast [ze,zd,CLe,zh,jh,BO])
 intro i h1;by_cases h:i<ks.length
 ·have g1:=jz ks i h;have ht:=GN (key:=zL.slot) (n:=n) h;have hle:(jh zL.slot n (ks.take i)).length<=i:=WJ (YE n _) (by simp;omega);have hlo:(zI (jh zL.slot n (ks.take i))).length=(jh zL.slot n (ks.take i)).length:=We ..;by_cases hc:ks[i].slot=n
  ·rw[if_pos hc]at ht;push_cast [hll,h,g1,hc]
   repeat refine an ?_
   exact ⟨i+1,h,by omega,wks [.inl 0] (by push_cast [ze,zd,CLe,zh,ht])⟩
  ·rw[if_neg hc]at ht;push_cast [hll,h,g1,hc]
   repeat refine an ?_
   exact ⟨i+1,h,by omega,wks [.inl 0] (by push_cast [ze,zd,CLe,zh,ht,WS])⟩
 ·rw[Wf (by omega)];push_cast [hll,h];exact dn
theorem GE (f:FsV) (hR:zW f.xs) (hlen:f.xs.length<=20000) (s:zB) (hh:zl s.dir f.xs=true) (hes:(zf s.dir f.xs).es.length<=20000) (i:Int) (hi:zl i f.xs=true) (hne:s.dir≠i) (hll:0<=(zf i f.xs).links/\(zf i f.xs).links<=100000000):Fun Tryz.prog G0 89 [.agg (fsC f),.agg (Ye s),.sc (.int .i64 i)] (.agg (fsC (Xb f s i))) 0:=by
 have hdl:(qe s.dir (zQ s.name i) f.xs).length=f.xs.length:=qV hR hh;have hg:=qU (G:=G0) f s.dir (by omega);have hg2:=qU (G:=G0) f i (by omega);rw[hh]at hg;rw[hi]at hg2;have hw:=xd (G:=G0) (zf s.dir f.xs).es s.name i (by omega);have hd1:=Jz (G:=G0) f (qh (zf s.dir f.xs) (zQ s.name i (zf s.dir f.xs).es)) (by omega);have hd2:=Jz (G:=G0) ⟨f.maxI,f.maxB,f.next,qe s.dir (zQ s.name i) f.xs⟩ { zf i f.xs with links:=(zf i f.xs).links+1 } (by simp only;omega);have e:Xb f s i=⟨f.maxI,f.maxB,f.next,qd { zf i f.xs with links:=(zf i f.xs).links+1 } (qe s.dir (zQ s.name i) f.xs)⟩:=rfl;unfold qe at hd2 e;refine fof (fun j=>if j=5 then [false,false,false,false,false,true] else []) Tryz.func89 ?_;dsimp only[Tryz.f89];push_cast;refine cl hg ?_;push_cast;refine cl hg2 ?_;push_cast;refine cl hw ?_;push_cast
 repeat refine an ?_
 refine cl hd1 ?_;push_cast;refine cl hd2 ?_;push_cast;exact dn (by push_cast [ze,zd,CLe,zh,e])
theorem zg6 (v:qj) (hR:zW v.fs.xs) (hs:v6 v) (n:Int) (s:zB) (w:qj) (x:zn) (h:zrW v n s x w) (hh:zl s.dir v.fs.xs=true) (hne:s.dir≠x.ino) (hm:may s.name=true) (hml:s.name.length<=2000000)
  (hl1:zl x.ino v.fs.xs=true->0<=(zf x.ino v.fs.xs).links/\(zf x.ino v.fs.xs).links<=100000000) (hdat:(zf x.ino v.pool).data.length<=100000) :
  Fun Tryz.prog G0 92 [jP v,.sc (.int .i64 n),.agg (Ye s)] (.tup [jP w,.sc (.int .i64 0)]) 0:=by
 obtain ⟨h1,h2,h3,h4,h5,h6⟩:=h;have hlen:=hs.fs.len;have hk:=hs.kept;have hp:=hs.pool;have c1:=GO (G:=G0) v n (by omega);rw[h1,h2]at c1;have c2:=qU (G:=G0) v.fs x.ino (by omega);have c3:=VK s.name hml;rw[hm]at c3;have hes:=(hs.fs.node _ (zj hh).2.1).1;unfold zkC at h5;rw[h2]at h5;dsimp only at h5;cases hx:zl x.ino v.fs.xs with
 | true =>
  rw[hx]at c2 h5;rw[if_pos rfl]at h5;have k2:=Wy (h3 hx);have c4:=GE v.fs hR (by omega) s hh (by omega) x.ino hx hne (hl1 hx);have c5:=Z9 (G:=G0) ⟨Xb v.fs s x.ino,v.kept,v.pool⟩ n (by show v.kept.length<=_;omega);dsimp only at c5;rw[h5]at c5;refine fof (fun j=>if j=8 then js 8 9 else if j=17 then [false,false,false,false,false,false,false,false,true] else []) Tryz.func92 ?_;dsimp only[Tryz.f92];push_cast;refine cl c1 ?_;push_cast;refine cl c2 ?_;push_cast [k2];refine cl c3 ?_;push_cast [k2];refine cl c4 ?_;push_cast;refine cl c5 ?_;push_cast;exact dn
 | false =>
  rw[hx]at c2 h5;rw[if_neg (by decide)]at h5;obtain ⟨px,hY⟩:=h6 hx;have hroom:=h4 hx;have y1:(J5 v n s).ino=x.ino:=by rw[hY]
  have y2:(J5 v n s).links=0:=by rw[hY]
  clear hY h6 h3 h4 hl1;have hh2:∀ m,zl m v.fs.xs=true->zl m (qd (J5 v n s) v.fs.xs)=true:=fun m q=>by rw[qy,q,BI]
  have hi2:zl x.ino (qd (J5 v n s) v.fs.xs)=true:=by rw[qy,y1];simp
  have g1:zf s.dir (qd (J5 v n s) v.fs.xs)=zf s.dir v.fs.xs:=by rw[qq,y1,if_neg (fun q=>hne q.symm)]
  have g2:zf x.ino (qd (J5 v n s) v.fs.xs)=J5 v n s:=by rw[qq,y1,if_pos rfl]
  have hsl:=zaa (x:=J5 v n s) (xs:=v.fs.xs);have c4:=Xw (G:=G0) v;have c5:=qU (G:=G0) ⟨0,0,0,v.pool⟩ x.ino (by show v.pool.length<=_;omega);have px:zl x.ino (⟨0,0,0,v.pool⟩:FsV).xs=true:=px;rw[px]at c5;have c6:=zeQ (G:=G0) v.fs hs.fs 1 (if (zf x.ino v.pool).kind=1 then ((zf x.ino v.pool).data.length:Int) else 0) (by decide) (by split<;>omega);rw[hroom]at c6;have c8:=Xw (G:=G0) ⟨⟨v.fs.maxI,v.fs.maxB,v.fs.next,qd (J5 v n s) v.fs.xs⟩,v.kept,v.pool⟩;have c9:=Hi (G:=G0) ⟨0,0,0,v.pool⟩ x.ino (by show v.pool.length<=_;omega);have c10:=GE ⟨v.fs.maxI,v.fs.maxB,v.fs.next,qd (J5 v n s) v.fs.xs⟩ (zO hR) (by show (qd (J5 v n s) v.fs.xs).length<=_;omega) s (hh2 _ hh) (by show (zf s.dir (qd (J5 v n s) v.fs.xs)).es.length<=_;rw[g1];omega) x.ino hi2 hne (by show 0<=(zf x.ino (qd (J5 v n s) v.fs.xs)).links/\(zf x.ino (qd (J5 v n s) v.fs.xs)).links<=_;rw[g2,y2];decide);have c11:=Z9 (G:=G0) ⟨Xb ⟨v.fs.maxI,v.fs.maxB,v.fs.next,qd (J5 v n s) v.fs.xs⟩ s x.ino,v.kept,zY x.ino v.pool⟩ n (by show v.kept.length<=_;omega);dsimp only at c11 c10 c8 c9 c5;rw[h5]at c11;have c7:∀ y,J5 v n s=y->Fun Tryz.prog G0 58 [.agg (fsC v.fs),.agg (JS y)] (.agg [.sc (.int .i64 v.fs.maxI),.sc (.int .i64 v.fs.maxB),.sc (.int .i64 v.fs.next),.own 0 64 6 (zr (qd (J5 v n s) v.fs.xs))]) 1:=fun y e=>by rw[←e];exact Jz v.fs _ (by omega)
  have e2:(zf x.ino v.pool).kind=2->J5 v n s = { zf x.ino v.pool with parent:=s.dir }:=fun q=>by unfold J5;rw[h2];dsimp only;rw[if_pos q]
  have e3:(zf x.ino v.pool).kind≠2->J5 v n s=zf x.ino v.pool:=fun q=>by unfold J5;rw[h2];dsimp only;rw[if_neg q]
  clear h5 y1 y2 hh2 hi2 g1 g2 hsl;generalize J5 v n s=y' at *;generalize zf x.ino v.pool=Y at *;by_cases k2:Y.kind=2
  ·have k1':=Wy (show ¬Y.kind=1 by omega);have k2':=eq_true k2;rw[if_neg (show ¬Y.kind=1 by omega)]at c6;have c7:=c7 _ (e2 k2);refine fof (fun j=>if j=8 then js 8 9 else if j=17 then [false,false,false,false,false,false,false,false,true] else []) Tryz.func92 ?_;dsimp only[Tryz.f92];push_cast;refine cl c1 ?_;push_cast;refine cl c2 ?_;push_cast;refine cl c3 ?_;push_cast;refine cl c4 ?_;push_cast;refine cl c5 ?_;push_cast [k1',k2'];refine cl c6 ?_;push_cast [k1',k2'];refine cl c7 ?_;push_cast [k1',k2'];refine cl c8 ?_;push_cast;refine cl c9 ?_;push_cast;refine cl c10 ?_;push_cast;refine cl c11 ?_;push_cast;exact dn
  ·have k2':=Wy k2;have c7:=c7 _ (e3 k2);by_cases k1:Y.kind=1
   ·have k1':=eq_true k1;rw[if_pos k1]at c6;refine fof (fun j=>if j=8 then js 8 9 else if j=17 then [false,false,false,false,false,false,false,false,true] else []) Tryz.func92 ?_;dsimp only[Tryz.f92];push_cast;refine cl c1 ?_;push_cast;refine cl c2 ?_;push_cast;refine cl c3 ?_;push_cast;refine cl c4 ?_;push_cast;refine cl c5 ?_;push_cast [k1',k2']
    repeat refine an ?_
    refine cl c6 ?_;push_cast [k1',k2'];refine cl c7 ?_;push_cast [k1',k2'];refine cl c8 ?_;push_cast;refine cl c9 ?_;push_cast;refine cl c10 ?_;push_cast;refine cl c11 ?_;push_cast;exact dn
   ·have k1':=Wy k1;rw[if_neg k1]at c6;refine fof (fun j=>if j=8 then js 8 9 else if j=17 then [false,false,false,false,false,false,false,false,true] else []) Tryz.func92 ?_;dsimp only[Tryz.f92];push_cast;refine cl c1 ?_;push_cast;refine cl c2 ?_;push_cast;refine cl c3 ?_;push_cast;refine cl c4 ?_;push_cast;refine cl c5 ?_;push_cast [k1',k2'];refine cl c6 ?_;push_cast [k1',k2'];refine cl c7 ?_;push_cast [k1',k2'];refine cl c8 ?_;push_cast;refine cl c9 ?_;push_cast;refine cl c10 ?_;push_cast;refine cl c11 ?_;push_cast;exact dn
end
section
open CA CB
open Go.RowKit
def zqp (x:zn) (l:List zn):Prop:=∃ y∈l,y.kind=x.kind/\y.data=x.data
def VT (w:qj) (v:qj):Prop:=∀ x∈w.fs.xs,x.kind≠2->zqp x v.fs.xs∨zqp x v.pool
theorem zgK (v:qj) (k:Int) (t:Lz) (h1:v.fs.xs.length<=100000) (h2:v.pool.length<=100000) (h:(∃ y∈v.fs.xs,y.kind=k/\y.data=t)∨(∃ y∈v.pool,y.kind=k/\y.data=t)):Fun Tryz.prog G0 50 [jP v,.sc (.int .i64 k),.str t] (.sc (.bool true)) 0:=by
 obtain ⟨⟨mi,mb,nx,xs⟩,ks,pl⟩:=v;dsimp only at h h1 h2;have l1:(zr xs).length=xs.length:=We ..;have l2:(zr pl).length=pl.length:=We ..;refine fon Tryz.func50 ?_;dsimp only[Tryz.f50];push_cast;refine loop (fun i:Nat=>⟨[(1,.sc (.int .i64 k)),(2,.str t),(3,.ptr 0 0),(7,.sc (.int .i64 i))],[Uc ⟨⟨mi,mb,nx,xs⟩,ks,pl⟩],0,0⟩) (fun i=>i<=xs.length/\∀ j (hj:j<xs.length),j<i->¬(xs[j].kind=k/\xs[j].data=t)) (fun i=>xs.length-i) 0 ⟨Wb _,fun j _ hj=>absurd hj (Oo _)⟩ ?_ ?_
 ·exact wk
 rintro i ⟨i1,i2⟩;by_cases hi:i<xs.length
 ·have hi':=eq_true (show (i:Int)<xs.length by omega);have hgi:(zr xs)[i]?=some (JS xs[i]):=by simp[zr,hi]
  generalize hX:xs[i]=X at *;have hne:¬(X.kind=k/\X.data=t)->∀ j (hj:j<xs.length),j<i+1->¬(xs[j].kind=k/\xs[j].data=t):=fun hn j hj hl=>by
   rcases Wr j i with q | q
   ·exact i2 j hj q
   ·have:j=i:=by omega
    subst this;rw[hX];exact hn
  by_cases c1:X.kind=k
  ·have c1':=eq_true c1;by_cases c2:X.data=t
   ·have c2':=eq_true c2;push_cast [hi',hgi,l1,c1',c2',On]
    repeat refine an ?_
    exact dn
   ·have c2':=Wy c2;push_cast [hi',hgi,l1,c1',c2',On]
    repeat refine an ?_
    exact ⟨i+1,⟨by omega,hne fun q=>c2 q.2⟩,by omega,wk⟩
  ·have c1':=Wy c1;push_cast [hi',hgi,l1,c1',On]
   repeat refine an ?_
   exact ⟨i+1,⟨by omega,hne fun q=>c1 q.1⟩,by omega,wk⟩
 have hi':=Wy (show ¬(i:Int)<xs.length by omega);have h:=h.resolve_left (by
  rintro ⟨y,hy,q⟩;obtain ⟨j,hj,rfl⟩:=Wt hy;exact i2 j hj (by omega) q)
 push_cast [hi',l1];refine loop (fun i:Nat=>⟨[(1,.sc (.int .i64 k)),(2,.str t),(3,.ptr 0 0),(8,.sc (.int .i64 i))],[Uc ⟨⟨mi,mb,nx,xs⟩,ks,pl⟩],0,0⟩) (fun i=>i<=pl.length/\∀ j (hj:j<pl.length),j<i->¬(pl[j].kind=k/\pl[j].data=t)) (fun i=>pl.length-i) 0 ⟨Wb _,fun j _ hj=>absurd hj (Oo _)⟩ ?_ ?_
 ·exact wk
 clear i1 i2 hi hi' i;rintro i ⟨i1,i2⟩;have hi:i<pl.length:=OM fun hn=>by
  obtain ⟨y,hy,q⟩:=h;obtain ⟨j,hj,rfl⟩:=Wt hy;exact i2 j hj (by omega) q
 have hi':=eq_true (show (i:Int)<pl.length by omega);have hgi:(zr pl)[i]?=some (JS pl[i]):=by simp[zr,hi]
 generalize hX:pl[i]=X at *;have hne:¬(X.kind=k/\X.data=t)->∀ j (hj:j<pl.length),j<i+1->¬(pl[j].kind=k/\pl[j].data=t):=fun hn j hj hl=>by
  rcases Wr j i with q | q
  ·exact i2 j hj q
  ·have:j=i:=by omega
   subst this;rw[hX];exact hn
 by_cases c1:X.kind=k
 ·have c1':=eq_true c1;by_cases c2:X.data=t
  ·have c2':=eq_true c2;push_cast [hi',hgi,l2,c1',c2',On]
   repeat refine an ?_
   exact dn
  ·have c2':=Wy c2;push_cast [hi',hgi,l2,c1',c2',On]
   repeat refine an ?_
   exact ⟨i+1,⟨by omega,hne fun q=>c2 q.2⟩,by omega,wk⟩
 ·have c1':=Wy c1;push_cast [hi',hgi,l2,c1',On]
  repeat refine an ?_
  exact ⟨i+1,⟨by omega,hne fun q=>c1 q.1⟩,by omega,wk⟩
theorem zkw (w v:qj) (h0:w.fs.xs.length<=100000) (h1:v.fs.xs.length<=100000) (h2:v.pool.length<=100000) (h:VT w v):Fun Tryz.prog G0 21 [.agg (fsC w.fs),jP v] (.sc (.slice none 0 0)) 0:=by
 have l1:(zr w.fs.xs).length=w.fs.xs.length:=We ..;refine fon Tryz.func21 ?_;dsimp only[Tryz.f21];push_cast;refine loop (fun i:Nat=>⟨[(2,.ptr 0 0),(3,.ptr 1 0),(5,.sc (.slice none 0 0)),(6,.sc (.int .i64 i))],[fsC w.fs,Uc v],0,0⟩) (fun i=>i<=w.fs.xs.length) (fun i=>w.fs.xs.length-i) 0 (Wb _) ?_ ?_
 ·exact wk
 intro i i1;by_cases hi:i<w.fs.xs.length
 ·have hi':=eq_true (show (i:Int)<w.fs.xs.length by omega);have hgi:(zr w.fs.xs)[i]?=some (JS w.fs.xs[i]):=by simp[zr,hi]
  have hx:=h w.fs.xs[i] (Ww hi);generalize w.fs.xs[i]=X at *;by_cases c1:X.kind=2
  ·have c1':=eq_true c1;push_cast [hi',hgi,l1,c1',On]
   repeat refine an ?_
   exact ⟨i+1,by omega,by omega,wk⟩
  ·have c1':=Wy c1;have hf:=zgK v X.kind X.data h1 h2 (hx c1);push_cast [hi',hgi,l1,c1',On]
   repeat refine an ?_
   refine cl hf ?_;push_cast
   repeat refine an ?_
   exact ⟨i+1,by omega,by omega,wk⟩
 ·have hi':=Wy (show ¬(i:Int)<w.fs.xs.length by omega);push_cast [hi',l1];exact dn
end
section
open CA CB
open Go.RowKit
theorem zm5 (w:qj) (hw:Zm w) (hs:v6 w) (s:Int) (a:Lz) (ha:a.length<=1000000):Fun Tryz.prog GD 129 [jP w,.agg (opL ⟨7,s,a,[],[]⟩)] (.tup [jP (doV w ⟨7,s,a,[],[]⟩).1,.sc (.int .i64 (doV w ⟨7,s,a,[],[]⟩).2)]) 0:=by
 have ho:short ⟨7,s,a,[],[]⟩:=⟨ha,Wb _,Wb _⟩;have hop:=(xr 7 s a [] [] ho).gd1;cases hm:Y6 ⟨7,s,a,[],[]⟩ with
 | false =>
  have e:doV w ⟨7,s,a,[],[]⟩=(w,12):=by unfold doV;rw[hm];rfl
  rw[hm]at hop;rw[e];unfold opL qJ at hop;unfold opL;refine fof (fun i=>if i=3 then [false,false,false,false,false,false,false,false,false,true] else []) Tryz.func129 ?_;dsimp only[Tryz.f129];push_cast;refine cl hop ?_;push_cast;exact dn
 | true =>
  obtain ⟨p1,_⟩:=Xk hm;have e:doV w ⟨7,s,a,[],[]⟩=qT w ⟨7,s,a,[],[]⟩:=by unfold doV;rw[hm];rfl
  have hq:Fun Tryz.prog GD 213 _ _ 0:=(zhF w hw hs ⟨7,s,a,[],[]⟩ ho p1).g0;rw[hm]at hop;rw[e];unfold opL qJ at hop;unfold opL at hq ⊢;refine fof (fun i=>if i=3 then [false,false,false,false,false,false,false,false,false,true] else []) Tryz.func129 ?_;dsimp only[Tryz.f129];push_cast;refine cl hop ?_;push_cast;refine cl (yq (G:=GD)) ?_;push_cast [zjv,HF,reduceIte,Int.reduceEq,WN,Ov];refine cl hq ?_;push_cast;exact dn
theorem zsq (d:zX) (hd:zaB d) (p:Lz) (hp:p.length<=1000000):Fun Tryz.prog GD 75 [GJ d,.agg (opL (Ga p))] (.tup [GJ (Qe d (Ga p)).1,.sc (.int .i64 (Qe d (Ga p)).2)]) 0:=by
 have hsl:=UI (G:=GD) ⟨7,0,p,[],[]⟩;rw[Wm (show (7:Int)=3∨(7:Int)=7 by decide)]at hsl;have hb1:=hd.slot.1;have hb2:=hd.slot.2;have hopl:(d.ops.map opL).length=d.ops.length:=We ..;have hol:=hd.ops;have hl5:∀ l:List OpV,∀ r∈l.map opL,r.length=5:=fun l r hr=>by obtain ⟨x,_,rfl⟩:=WV.1 hr;rfl
 have hst:∀ l:List OpV,ju (l.map opL):=fun l r hr=>by obtain ⟨x,_,rfl⟩:=WV.1 hr;rfl
 have hX:=MX (G:=GD) (d.ops.map opL) (([⟨7,d.slot+1,p,[],[]⟩]:List OpV).map opL) (hl5 _) (hl5 _) (hst _) (hst _) (by omega) (by simp) (by simp);rw[←WS]at hX;have hc:=(hX.fun (r:=.own 0 79 5 ((d.ops++([⟨7,d.slot+1,p,[],[]⟩]:List OpV)).map opL)) (n:=1) (by
  rintro r bx m ⟨rfl,c,B,hB,rfl,rfl⟩;exact ⟨[(0,79,5,(d.ops++([⟨7,d.slot+1,p,[],[]⟩]:List OpV)).map opL,c)],[.inl 0],hB.ok rfl (by simp) (hl5 _),rfl,rfl,by push_cast [ze,zd,CLe,zh,We]⟩)).weak (r':=.sl 5 ((d.ops++([⟨7,d.slot+1,p,[],[]⟩]:List OpV)).map opL)) (by push_cast [ze,zd,CLe,zh])
 have hdo:=zm5 d.w hd.wi hd.ws (d.slot+1) p hp;have ea:Qe d (Ga p)=if (doV d.w ⟨7,d.slot+1,p,[],[]⟩).2≠0 then (d,(doV d.w ⟨7,d.slot+1,p,[],[]⟩).2) else (⟨(doV d.w ⟨7,d.slot+1,p,[],[]⟩).1,d.ops++[⟨7,d.slot+1,p,[],[]⟩],d.diags,d.status,if 0<d.slot+1 then d.slot+1 else d.slot⟩,0):=by
  unfold Qe;rw[if_neg (show ¬7<(Ga p).kind by show ¬(7:Int)<7;decide),show Zz d (Ga p)=⟨7,d.slot+1,p,[],[]⟩ from rfl]
 have hmx:(if d.slot+1>d.slot then d.slot+1 else d.slot)=d.slot+1:=if_pos (by omega);unfold opL at hsl hdo;rw[show opL (Ga p) = [.sc (.int .i64 7),.sc (.int .i64 0),.str p,.str [],.str []] from rfl];by_cases hz:(doV d.w ⟨7,d.slot+1,p,[],[]⟩).2=0
 ·rw[ea,if_neg (fun h=>h hz),if_pos (show 0<d.slot+1 by omega)];rw[hz]at hdo;simp only[Wq,WL,G5]at hc;refine fon Tryz.func75 ?_;dsimp only[Tryz.f75];push_cast;refine cl hsl ?_;push_cast
  repeat refine an ?_
  push_cast;refine cl hdo ?_;push_cast;refine cl hc ?_;push_cast [hmx];exact dn
 ·have hz':=Wy hz;rw[ea,if_pos hz];refine fon Tryz.func75 ?_;dsimp only[Tryz.f75];push_cast;refine cl hsl ?_;push_cast
  repeat refine an ?_
  push_cast;refine cl hdo ?_;push_cast [hz'];exact dn
end
section
open CA CB
open Go.RowKit
theorem zmQ (w:qj) (hw:Zm w) (hs:v6 w) (a b:Lz) (ha:a.length<=1000000) (hb:b.length<=1000000):Fun Tryz.prog GD 129 [jP w,.agg (opL (JT a b))] (.tup [jP (doV w (JT a b)).1,.sc (.int .i64 (doV w (JT a b)).2)]) 0:=by
 have ho:short ⟨6,0,a,b,[]⟩:=⟨ha,hb,Wb _⟩;have hop:=(xr 6 0 a b [] ho).gd1;unfold JT;cases hm:Y6 ⟨6,0,a,b,[]⟩ with
 | false =>
  have e:doV w ⟨6,0,a,b,[]⟩=(w,12):=by unfold doV;rw[hm];rfl
  rw[hm]at hop;rw[e];unfold opL qJ at hop;unfold opL;refine fof (fun i=>if i=3 then [false,false,false,false,false,false,false,false,false,true] else []) Tryz.func129 ?_;dsimp only[Tryz.f129];push_cast;refine cl hop ?_;push_cast;exact dn
 | true =>
  obtain ⟨p1,p2,_⟩:=Xk hm;have e:doV w ⟨6,0,a,b,[]⟩=J1 w ⟨6,0,a,b,[]⟩:=by unfold doV;rw[hm];rfl
  have hq:Fun Tryz.prog GD 212 _ _ 0:=(zfj w hw hs ⟨6,0,a,b,[]⟩ ho p1 (p2 rfl)).g0;rw[hm]at hop;rw[e];unfold opL qJ at hop;unfold opL at hq ⊢;refine fof (fun i=>if i=3 then [false,false,false,false,false,false,false,false,false,true] else []) Tryz.func129 ?_;dsimp only[Tryz.f129];push_cast;refine cl hop ?_;push_cast;refine cl (yq (G:=GD)) ?_;push_cast [zjv,HF,reduceIte,Int.reduceEq,WN,Ov];refine cl hq ?_;push_cast;exact dn
theorem zmg (d:zX) (hd:zaB d) (p q:Lz) (hp:p.length<=1000000) (hq:q.length<=1000000):Fun Tryz.prog GD 75 [GJ d,.agg (opL (JT p q))] (.tup [GJ (Qe d (JT p q)).1,.sc (.int .i64 (Qe d (JT p q)).2)]) 0:=by
 have hsl:=UI (G:=GD) (JT p q);rw[show decide ((JT p q).kind=3∨(JT p q).kind=7)=false from Wj (show ¬((6:Int)=3∨(6:Int)=7) by decide)]at hsl;have hb1:=hd.slot.1;have hb2:=hd.slot.2;have hopl:(d.ops.map opL).length=d.ops.length:=We ..;have hol:=hd.ops;have hl5:∀ l:List OpV,∀ r∈l.map opL,r.length=5:=fun l r hr=>by obtain ⟨x,_,rfl⟩:=WV.1 hr;rfl
 have hst:∀ l:List OpV,ju (l.map opL):=fun l r hr=>by obtain ⟨x,_,rfl⟩:=WV.1 hr;rfl
 have hX:=MX (G:=GD) (d.ops.map opL) (([JT p q]:List OpV).map opL) (hl5 _) (hl5 _) (hst _) (hst _) (by omega) (by simp) (by simp);rw[←WS]at hX;have hc:=(hX.fun (r:=.own 0 79 5 ((d.ops++([JT p q]:List OpV)).map opL)) (n:=1) (by
  rintro r bx m ⟨rfl,c,B,hB,rfl,rfl⟩;exact ⟨[(0,79,5,(d.ops++([JT p q]:List OpV)).map opL,c)],[.inl 0],hB.ok rfl (by simp) (hl5 _),rfl,rfl,by push_cast [ze,zd,CLe,zh,We]⟩)).weak (r':=.sl 5 ((d.ops++([JT p q]:List OpV)).map opL)) (by push_cast [ze,zd,CLe,zh])
 have hdo:=zmQ d.w hd.wi hd.ws p q hp hq;have ea:Qe d (JT p q)=if (doV d.w (JT p q)).2≠0 then (d,(doV d.w (JT p q)).2) else (⟨(doV d.w (JT p q)).1,d.ops++[JT p q],d.diags,d.status,d.slot⟩,0):=by
  have e:Zz d (JT p q)=JT p q:=rfl;unfold Qe;rw[if_neg (show ¬7<(JT p q).kind by show ¬(7:Int)<6;decide),e]
  rfl
 have hmx:¬(0>d.slot):=by omega
 rw[ea];have eo:opL (JT p q) = [.sc (.int .i64 6),.sc (.int .i64 0),.str p,.str q,.str []]:=rfl;unfold opL at hsl;rw[show (JT p q).kind=6 from rfl,show (JT p q).slot=0 from rfl,show (JT p q).a=p from rfl,show (JT p q).b=q from rfl,show (JT p q).d = [] from rfl]at hsl;rw[eo]at hdo ⊢;simp only[Wq,WL,eo]at hc;by_cases hz:(doV d.w (JT p q)).2=0
 ·rw[if_neg (fun h=>h hz)];rw[hz]at hdo;refine fon Tryz.func75 ?_;dsimp only[Tryz.f75];push_cast;refine cl hsl ?_;push_cast;refine cl hdo ?_;push_cast;refine cl hc ?_;push_cast [Wy hmx];exact dn
 ·have hz':=Wy hz;rw[if_pos hz];refine fon Tryz.func75 ?_;dsimp only[Tryz.f75];push_cast;refine cl hsl ?_;push_cast;refine cl hdo ?_;push_cast [hz'];exact dn
end
section
open CA CB
open Go.RowKit
theorem zcT (f:FsV) (hf:FsI f) (hs:FsS f) (p:Lz) (hp:p.length<=100000):Fun Tryz.prog G0 223 [.agg (fsC f),.str p] (.tup [.agg (JS (Yl f p).1),.sc (.int .i64 (Yl f p).2)]) 0:=by
 have h1:=Mp f hf hs p (by omega);have h2:=jn (G:=G0) f (atV f p).1.ino (by have:=hs.len;omega) hf.rises;by_cases c1:(atV f p).2=0
 ·have c1':=eq_true c1;cases hh:zl (atV f p).1.ino f.xs with
  | false =>
   have h0:(atV f p).1.ino=0:=OM fun hne=>by
    have:zl (atV f p).1.ino f.xs=true:=by
     unfold atV at hne ⊢;split at hne
     ·rename_i q;rw[if_pos q];exact uP hf _ _ (fun _=>hf.root) hne
     ·exact absurd rfl hne
    rw[this]at hh;cases hh
   have e:Yl f p=(vU,1):=by unfold Yl;rw[if_neg (fun h=>h c1),if_pos h0]
   rw[c1]at h1;rw[hh]at h2;refine fon Tryz.func223 ?_;dsimp only[Tryz.f223];push_cast;refine cl h1 ?_;push_cast;refine cl h2 ?_;push_cast;exact dn (by push_cast [ze,zd,CLe,zh,e,vU])
  | true =>
   have h0:=XY hf hh;have e:Yl f p=(zf (atV f p).1.ino f.xs,0):=by unfold Yl;rw[if_neg (fun h=>h c1),if_neg h0]
   rw[c1]at h1;rw[hh]at h2;refine fon Tryz.func223 ?_;dsimp only[Tryz.f223];push_cast;refine cl h1 ?_;push_cast;refine cl h2 ?_;push_cast;exact dn (by push_cast [ze,zd,CLe,zh,e])
 ·have e:Yl f p=(vU,(atV f p).2):=by unfold Yl;rw[if_pos c1]
  refine fon Tryz.func223 ?_;dsimp only[Tryz.f223];push_cast;refine cl h1 ?_;push_cast [c1];exact dn (by push_cast [ze,zd,CLe,zh,e,vU])
theorem zef (f:FsV) (hf:FsI f) (hs:FsS f) (p:Lz) (hp:p.length<=100000):Fun Tryz.prog G0 176 [.agg (fsC f),.str p] (.tup [.sc (.int .i64 (Ze f p).1),.sc (.int .i64 (Ze f p).2)]) 0:=by
 have h1:=zcT f hf hs p hp;by_cases c1:(Yl f p).2=0
 ·have d1:(atV f p).2=0/\(atV f p).1.ino≠0/\(Yl f p).1=zf (atV f p).1.ino f.xs:=by
   unfold Yl at c1 ⊢;split at c1
   ·rename_i h;exact absurd c1 h
   ·rename_i h;split at c1
    ·exact absurd c1 (show ¬(1:Int)=0 by decide)
    ·rename_i h';rw[if_neg h,if_neg h'];exact ⟨WB.1 h,h',rfl⟩
  rw[c1]at h1;by_cases c2:(Yl f p).1.kind=2
  ·have e:Ze f p=((Yl f p).1.ino,0):=by unfold Ze;rw[if_neg (fun h=>h d1.1),if_neg d1.2.1,if_neg (by rw[←d1.2.2];exact fun h=>h c2),d1.2.2]
   refine fon Tryz.func176 ?_;dsimp only[Tryz.f176];push_cast;refine cl h1 ?_;push_cast [c2];exact dn (by push_cast [ze,zd,CLe,zh,e])
  ·have e:Ze f p=(0,3):=by unfold Ze;rw[if_neg (fun h=>h d1.1),if_neg d1.2.1,if_pos (by rw[←d1.2.2];exact c2)]
   refine fon Tryz.func176 ?_;dsimp only[Tryz.f176];push_cast;refine cl h1 ?_;push_cast [c2];exact dn (by push_cast [ze,zd,CLe,zh,e])
 ·have e:Ze f p=(0,(Yl f p).2):=by
   unfold Ze Yl;unfold Yl at c1;split
   ·rfl
   ·rename_i h;rw[if_neg h]at c1;split
    ·rfl
    ·rename_i h';rw[if_neg h']at c1;exact absurd rfl c1
  refine fon Tryz.func176 ?_;dsimp only[Tryz.f176];push_cast;refine cl h1 ?_;push_cast [c1];exact dn (by push_cast [ze,zd,CLe,zh,e])
theorem zhZ {G:zu} (a b:List Lz) (la:a.length<=90000) (lb:b.length<=90000):Fun Tryz.prog G 70 [.sl 1 [[.sl 1 (zV a)],[.sl 1 (zV b)]]] (.sl 1 (zV (a++b))) 0:=by
 have hl:∀ l:List Lz,∀ r∈zV l,r.length=1:=fun l r hr=>by obtain ⟨x,_,rfl⟩:=WV.1 hr;rfl
 have hs:∀ l:List Lz,ju (zV l):=fun l r hr=>by obtain ⟨x,_,rfl⟩:=WV.1 hr;rfl
 have hla:(zV a).length=a.length:=We ..;have hlb:(zV b).length=b.length:=We ..;by_cases h0:0<a.length+b.length
 ·have h:=yw (G:=G) (zV a) (zV b) (hl a) (hl b) (hs a) (hs b) (by omega) (by omega) (by omega);have e:zV a++zV b=zV (a++b):=WS.symm;rw[e]at h;refine (h.fun (r:=.own 0 9 1 (zV (a++b))) (n:=1) (by
   rintro r bx m ⟨rfl,c,B,hB,rfl,rfl⟩;exact ⟨[(0,9,1,zV (a++b),c)],[.inl 0],hB.ok rfl (by rw[We,Wn];exact h0) (hl _),rfl,rfl,by push_cast [ze,zd,CLe,zh,We]⟩)).weak (by push_cast [ze,zd,CLe,zh])
 ·have ha:a = []:=W6 (by omega);have hb:b = []:=W6 (by omega);subst ha hb;exact MD
end
section
open CA CB
open Go.RowKit
abbrev zl2 (f:FsV) (fol dir:Bool) (todo:Qg) (s:zB) (n:Int):List C:=[.sc (.int .i64 f.maxI),.sc (.int .i64 f.maxB),.sc (.int .i64 f.next),.sl 6 (zr f.xs),.sc (.bool fol),.sc (.bool dir),.sl 1 (zV todo),.sc (.int .i64 s.dir),.str s.name,.sc (.int .i64 s.ino),.sc (.int .i64 n)]
abbrev XF:List C:=[.any,.any,.any,.any,.any,.any,.any,.any,.any,.any,.any]
theorem Nq (f:FsV) (fol dir:Bool) (todo:Qg) (s:zB) (n:Nat) (x d:zn) (hx:x.data.length<=10000) (ht:todo.length<=80000) (hn:n<=40):YX Tryz.prog G0 178 [.ptr 0 0,.agg (JS x),.agg (JS d)] [zl2 f fol dir todo s n] 0 (fun r bx m=>m=0 /\
  ((n=40/\r = .sc (.int .i64 6)/\bx = [XF])∨(n<40/\UQ x.data=true/\r = .sc (.int .i64 7)/\bx = [XF])∨(n<40/\UQ x.data=false/\r = .sc (.int .i64 0)/\bx = [zl2 f fol (dir||(jO x.data&&decide (todo = []))) (zp x.data++todo) ⟨0,[],if zaC x.data then 1 else d.ino⟩ (n+1:Nat)]))):=by
 by_cases h40:n=40
 ·have hc:((40:Int)<(n:Int)+1)=True:=eq_true (by omega);refine foX (fun _=>[]) Tryz.func178 ?_;dsimp only[Tryz.f178];push_cast [hc]
  repeat refine an ?_
  exact ⟨_,[XF],0,⟨⟨rfl,.inl ⟨h40,rfl,rfl⟩⟩,Wc _⟩,[],rfl,rfl,by push_cast [ze,zd,CLe,zh],by push_cast [ze,zd,CLe,zh]⟩
 have hc:((40:Int)<(n:Int)+1)=False:=Wy (by omega);have hlg:=zax x.data (by omega);cases hl:UQ x.data with
 | true =>
  rw[hl]at hlg;refine foX (fun _=>[]) Tryz.func178 ?_;dsimp only[Tryz.f178];push_cast [hc]
  repeat refine an ?_
  refine cl hlg ?_;push_cast;exact ⟨_,[XF],0,⟨⟨rfl,.inr (.inl ⟨by omega,rfl,rfl⟩)⟩,Wc _⟩,[],rfl,rfl,by push_cast [ze,zd,CLe,zh],by push_cast [ze,zd,CLe,zh]⟩
 | false =>
  rw[hl]at hlg;have hrd:Fun Tryz.prog G0 125 [.str x.data] (.agg [qJ (zaC x.data),.own 0 9 1 (zV (zp x.data)),qJ (jO x.data)]) 1:=ke x.data (by omega);have hnl:=qP x.data;have hcc:=zhZ (G:=G0) (zp x.data) todo (by omega) (by omega);have htl:(zV todo).length=todo.length:=We ..;have hte:((todo.length:Int)=0)=(todo = []):=propext ⟨fun h=>W6 (by omega),fun h=>by rw[h];rfl⟩;generalize zp x.data=nm at hrd hcc;have fin:∀ (b a:Bool),(dir||(jO x.data&&decide (todo = [])))=b->zaC x.data=a->YX Tryz.prog G0 178 [.ptr 0 0,.agg (JS x),.agg (JS d)] [zl2 f fol dir todo s n] 0 (fun r bx m=>m=0/\r = .sc (.int .i64 0)/\bx = [zl2 f fol b (nm++todo) ⟨0,[],if a then 1 else d.ino⟩ (n+1:Nat)]):=fun b a hb ha=>by
   rw[ha]at hrd;by_cases ht0:todo = []
   ·have ht0':=eq_true ht0;cases dir<;>cases hs:jO x.data<;>rw[hs]at hrd hb<;>cases a
    all_goals
     simp[ht0]at hb;subst hb;refine foX (fun i=>if i=8 then [false,false,false,false,false,false,false,false,false,false,false,true] else []) Tryz.func178 ?_;dsimp only[Tryz.f178];push_cast [hc]
     repeat refine an ?_
     refine cl hlg ?_;push_cast;refine cl hrd ?_;push_cast [htl,hte,ht0'];refine cl hcc ?_;push_cast;exact ⟨_,_,0,⟨⟨rfl,rfl,rfl⟩,Wc _⟩,[],rfl,rfl,by push_cast [ze,zd,CLe,zh],by push_cast [ze,zd,CLe,zh]⟩
   ·have ht0':=Wy ht0;cases dir<;>cases hs:jO x.data<;>rw[hs]at hrd hb<;>cases a
    all_goals
     simp[ht0]at hb;subst hb;refine foX (fun i=>if i=8 then [false,false,false,false,false,false,false,false,false,false,false,true] else []) Tryz.func178 ?_;dsimp only[Tryz.f178];push_cast [hc]
     repeat refine an ?_
     refine cl hlg ?_;push_cast;refine cl hrd ?_;push_cast [htl,hte,ht0'];refine cl hcc ?_;push_cast;exact ⟨_,_,0,⟨⟨rfl,rfl,rfl⟩,Wc _⟩,[],rfl,rfl,by push_cast [ze,zd,CLe,zh],by push_cast [ze,zd,CLe,zh]⟩
  have h:=fin _ _ rfl rfl;exact ⟨h.1,fun R L vs a1 a2 a3 a4 a5 a6 a7=>(h.2 R L vs a1 a2 a3 a4 a5 a6 a7).mono fun _ _=>by
   rintro ⟨r,bx,m,⟨⟨q1,q2,q3⟩,q4⟩,q5⟩;exact ⟨r,bx,m,⟨⟨q1,.inr (.inr ⟨by omega,rfl,q2,q3⟩)⟩,q4⟩,q5⟩⟩
theorem zk6 (f:FsV) (hf:FsI f) (hs:FsS f) (fol dir:Bool) (todo:Qg) (s:zB) (n:Nat) (lk:zn->zn->Qg->Bool->zB×Int):YX Tryz.prog G0 179 [.ptr 0 0] [zl2 f fol dir todo s n] 0 (fun r bx m=>m=0/\r = .tup [.agg (Ye (onL f fol lk [] s dir).1),.sc (.int .i64 (onL f fol lk [] s dir).2)]/\bx = [XF]):=by
 have hg:=jn (G:=G0) f s.ino (by have:=hs.len;omega) hf.rises;cases hh:zl s.ino f.xs with
 | false =>
  have e:onL f fol lk [] s dir=(s,0):=by unfold onL;rw[if_neg (fun h=>by rw[hh]at h;cases h.1)]
  rw[hh]at hg;refine foX (fun i=>if i=1 then js 13 14 else []) Tryz.func179 ?_;dsimp only[Tryz.f179];push_cast;refine cl hg ?_;push_cast;exact ⟨_,[XF],0,⟨⟨rfl,rfl,rfl⟩,Wc _⟩,[],rfl,rfl,by push_cast [ze,zd,CLe,zh],by push_cast [ze,zd,CLe,zh,e]⟩
 | true =>
  rw[hh]at hg;cases dir with
  | false =>
   have e:onL f fol lk [] s false=(s,0):=by unfold onL;rw[if_neg (fun h=>by cases h.2.1)]
   refine foX (fun i=>if i=1 then js 13 14 else []) Tryz.func179 ?_;dsimp only[Tryz.f179];push_cast;refine cl hg ?_;push_cast;exact ⟨_,[XF],0,⟨⟨rfl,rfl,rfl⟩,Wc _⟩,[],rfl,rfl,by push_cast [ze,zd,CLe,zh],by push_cast [ze,zd,CLe,zh,e]⟩
  | true =>
   by_cases hk:(zf s.ino f.xs).kind=2
   ·have e:onL f fol lk [] s true=(s,0):=by unfold onL;rw[if_neg (fun h=>h.2.2 hk)]
    have hk':=eq_true hk;refine foX (fun i=>if i=1 then js 13 14 else []) Tryz.func179 ?_;dsimp only[Tryz.f179];push_cast;refine cl hg ?_;push_cast [hk'];exact ⟨_,[XF],0,⟨⟨rfl,rfl,rfl⟩,Wc _⟩,[],rfl,rfl,by push_cast [ze,zd,CLe,zh],by push_cast [ze,zd,CLe,zh,e]⟩
   ·have e:onL f fol lk [] s true=(jj,3):=by unfold onL;rw[if_pos ⟨hh,rfl,hk⟩]
    have hk':=Wy hk;refine foX (fun i=>if i=1 then js 13 14 else []) Tryz.func179 ?_;dsimp only[Tryz.f179];push_cast;refine cl hg ?_;push_cast [hk'];exact ⟨_,[XF],0,⟨⟨rfl,rfl,rfl⟩,Wc _⟩,[],rfl,rfl,by push_cast [ze,zd,CLe,zh],by push_cast [ze,zd,CLe,zh,e,jj]⟩
theorem zeA (f:FsV) (hf:FsI f) (hr:FsR f) (hs:FsS f) (fol dir0:Bool) (todo0:Qg) (s0:zB) (ht0:todo0.length<=3000) (hd:∀ x∈f.xs,x.kind=3->x.data.length<=1000) (hs0:s0.ino≠0->zl s0.ino f.xs=true) (R:zB×Int) (hR:onN f fol 40 todo0 s0 dir0=R):YX Tryz.prog G0 147 [.ptr 0 0] [zl2 f fol dir0 todo0 s0 (0:Nat)] 0 (fun r bx m=>m=0/\r = .tup [.agg (Ye R.1),.sc (.int .i64 R.2)]/\∃ X,bx = [XF]++X):=by
 refine foX (fun i=>if i=4 then js 13 14 else []) Tryz.func147 ?_;dsimp only[Tryz.f147];push_cast;refine loop (fun p:Qg×zB×Bool×Nat=>⟨[(0,.ptr 0 0),(2,.ptr 1 0)],[zl2 f fol p.2.2.1 p.1 p.2.1 p.2.2.2,[.any,.any,.any]],0,0⟩)
  (fun p=>onN f fol (40-p.2.2.2) p.1 p.2.1 p.2.2.1=R/\p.2.2.2<=40/\p.1.length<=3000+p.2.2.2*1000/\(p.2.1.ino≠0->zl p.2.1.ino f.xs=true)) (fun p=>(41-p.2.2.2)*100000+p.1.length) (todo0,s0,dir0,0) ⟨hR,Wb _,by dsimp only;omega,hs0⟩ ?_ ?_
 ·exact wk
 rintro ⟨todo,s,dir,n⟩ ⟨hon,hn,htl,hin⟩;dsimp only at hon hn htl hin;rw[yc]at hon;cases todo with
 | nil =>
  have he:=zk6 f hf hs fol dir [] s n (lkN f fol (40-n));rw[hon]at he;push_cast;refine jI [0] [] he rfl (by decide) (by decide) (by simp) (by push_cast) rfl (fun r bx' m hp=>?_);obtain ⟨rfl,rfl,rfl⟩:=hp;push_cast;exact ⟨_,[XF],0,⟨⟨rfl,rfl,[],rfl⟩,by simp⟩,[],rfl,rfl,by push_cast [ze,zd,CLe,zh],by push_cast [ze,zd,CLe,zh]⟩
 | cons nm rest =>
  have hg:=jn (G:=G0) f s.ino (by have:=hs.len;omega) hf.rises;have hpos:((0:Int)<(rest.length:Int)+1)=True:=eq_true (by omega);have hrl:(zV rest).length=rest.length:=We ..;have hl1:((1:Int)<=(rest.length:Int)+1)=True:=eq_true (by omega);rw[Wh]at htl;unfold onL at hon;cases hh:zl s.ino f.xs with
  | false =>
   have h0:s.ino=0:=OM fun q=>by rw[hin q]at hh;cases hh
   rw[if_pos h0]at hon;rw[hh]at hg;rw[←hon];push_cast [hpos,hl1]
   repeat refine an ?_
   refine cl hg ?_;push_cast;exact ⟨_,[XF],0,⟨⟨rfl,rfl,[],rfl⟩,by simp⟩,[],rfl,rfl,by push_cast [ze,zd,CLe,zh],by push_cast [ze,zd,CLe,zh,jj]⟩
  | true =>
   have hgs:=zj hh;rw[if_neg (XY hf hh)]at hon;rw[hh]at hg;by_cases hk2:(zf s.ino f.xs).kind=2
   case neg =>
    have hk2':=Wy hk2;rw[if_pos hk2]at hon;rw[←hon];push_cast [hpos,hl1]
    repeat refine an ?_
    refine cl hg ?_;push_cast [hk2'];exact ⟨_,[XF],0,⟨⟨rfl,rfl,[],rfl⟩,by simp⟩,[],rfl,rfl,by push_cast [ze,zd,CLe,zh],by push_cast [ze,zd,CLe,zh,jj]⟩
   have hk2':=eq_true hk2;rw[if_neg (fun q=>q hk2)]at hon;by_cases n1:nm = [46]
   ·have n1':=eq_true n1;rw[if_pos n1]at hon;push_cast [hpos,hl1]
    repeat refine an ?_
    refine cl hg ?_;push_cast [hk2',n1'];exact ⟨(rest,⟨0,[],(zf s.ino f.xs).ino⟩,dir,n),⟨by dsimp only;rw[yc];exact hon,hn,by dsimp only;omega,fun _=>by dsimp only;rw[hgs.2.2];exact hh⟩,by dsimp only;omega,wk⟩
   have n1':=Wy n1;rw[if_neg n1]at hon;by_cases n2:nm = [46,46]
   ·have n2':=eq_true n2;rw[if_pos n2]at hon;push_cast [hpos,hl1]
    repeat refine an ?_
    refine cl hg ?_;push_cast [hk2',n1',n2'];exact ⟨(rest,⟨0,[],(zf s.ino f.xs).parent⟩,dir,n),⟨by dsimp only;rw[yc];exact hon,hn,by dsimp only;omega,fun _=>zmY hf hr hh hk2⟩,by dsimp only;omega,wk⟩
   have n2':=Wy n2;rw[if_neg n2]at hon;have hfd:=yv (G:=G0) (zf s.ino f.xs).es nm (by have:=hs.es hh;omega) (hf.es _ hgs.2.1);have hg2:=jn (G:=G0) f (zT nm (zf s.ino f.xs).es) (by have:=hs.len;omega) hf.rises;have hin2:zT nm (zf s.ino f.xs).es≠0->zl (zT nm (zf s.ino f.xs).es) f.xs=true:=fun q=>by
    have hx:Yj nm (zf s.ino f.xs).es=true:=by
     unfold Yj;rw[qg];cases hq:qz zN.name nm (zf s.ino f.xs).es with
     | some e=>rfl
     | none=>unfold zT at q;rw[hq]at q;exact absurd rfl q
    exact ZF hf hh hx
   by_cases hk3:(zf (zT nm (zf s.ino f.xs).es) f.xs).kind=3
   case neg =>
    have hk3':=Wy hk3;have hg1:((0:Int)<(rest.length:Int))=((0:Int)<(rest.length:Int)):=rfl;rw[if_pos (.inr (.inl hk3))]at hon;push_cast [hpos,hl1,hk2',n1',n2',hk3']
    repeat refine an ?_
    refine cl hg ?_;push_cast [hk2',n1',n2'];refine cl hfd ?_;push_cast;refine cl hg2 ?_;push_cast [hk3',hrl];exact ⟨(rest,⟨(zf s.ino f.xs).ino,nm,zT nm (zf s.ino f.xs).es⟩,dir,n),⟨by dsimp only;rw[yc];exact hon,hn,by dsimp only;omega,hin2⟩,by dsimp only;omega,wk⟩
   have hk3':=eq_true hk3;have hx2:zl (zT nm (zf s.ino f.xs).es) f.xs=true:=by
    cases hq:zl (zT nm (zf s.ino f.xs).es) f.xs with
    | true=>rfl
    | false=>rw[(JI hq).2]at hk3;exact absurd hk3 (by decide)
   have hxe:Yj nm (zf s.ino f.xs).es=true:=by
    cases hq:Yj nm (zf s.ino f.xs).es with
    | true=>rfl
    | false =>
     have e0:zT nm (zf s.ino f.xs).es=0:=by
      unfold zT;unfold Yj at hq;rw[qg]at hq;cases hz:qz zN.name nm (zf s.ino f.xs).es with
      | none=>rfl
      | some e=>rw[hz]at hq;cases hq
     rw[e0]at hx2;exact absurd rfl (XY hf hx2)
   have hxd:=hd _ (zj hx2).2.1 hk3;by_cases hr0:rest = []
   ·have hg1:((0:Int)<(rest.length:Int))=False:=Wy (by rw[hr0];simp);cases fol with
    | false =>
     cases dir with
     | false =>
      rw[if_pos (.inr (.inr ⟨hr0,rfl,rfl⟩))]at hon;push_cast [hpos,hl1,hk2',n1',n2',hk3',hg1]
      repeat refine an ?_
      refine cl hg ?_;push_cast [hk2',n1',n2'];refine cl hfd ?_;push_cast;refine cl hg2 ?_;push_cast [hk3',hrl,hg1];exact ⟨(rest,⟨(zf s.ino f.xs).ino,nm,zT nm (zf s.ino f.xs).es⟩,false,n),⟨by dsimp only;rw[yc];exact hon,hn,by dsimp only;omega,hin2⟩,by dsimp only;omega,wk⟩
     | true =>
      rw[if_neg (by rintro (q | q | q);exact absurd (hxe.symm.trans q) (by simp);exact q hk3;cases q.2.2)]at hon;have hlk:=Nq f false true rest s n (zf (zT nm (zf s.ino f.xs).es) f.xs) (zf s.ino f.xs) (by omega) (by omega) hn;push_cast [hpos,hl1,hk2',n1',n2',hk3',hg1]
      repeat refine an ?_
      refine cl hg ?_;push_cast [hk2',n1',n2'];refine cl hfd ?_;push_cast;refine cl hg2 ?_;push_cast [hk3',hrl,hg1];refine jI [0] [] hlk rfl (by decide) (by decide) (by simp) (by push_cast) (by push_cast) (fun r bx' m hp=>?_);obtain ⟨rfl,⟨q1,rfl,rfl⟩ | ⟨q1,q2,rfl,rfl⟩ | ⟨q1,q2,rfl,rfl⟩⟩:=hp
      ·push_cast;have hk0:40-n=0:=by omega
       rw[hk0]at hon;have hon:(jj,(6:Int))=R:=hon;rw[←hon];exact ⟨_,[XF],0,⟨⟨rfl,rfl,[],rfl⟩,by simp⟩,[],rfl,rfl,by push_cast [ze,zd,CLe,zh],by push_cast [ze,zd,CLe,zh,jj]⟩
      ·push_cast;have hk0:40-n=(39-n)+1:=by omega
       rw[hk0,QP,if_pos q2]at hon;rw[←hon];exact ⟨_,[XF],0,⟨⟨rfl,rfl,[],rfl⟩,by simp⟩,[],rfl,rfl,by push_cast [ze,zd,CLe,zh],by push_cast [ze,zd,CLe,zh,jj]⟩
      ·push_cast;have hk0:40-n=(39-n)+1:=by omega
       have hk1:40-(n+1)=39-n:=by omega
       rw[hk0,QP,if_neg (by rw[q2];simp)]at hon;have hnl:=qP (zf (zT nm (zf s.ino f.xs).es) f.xs).data;exact ⟨(zp (zf (zT nm (zf s.ino f.xs).es) f.xs).data++rest,⟨0,[],if zaC (zf (zT nm (zf s.ino f.xs).es) f.xs).data then 1 else (zf s.ino f.xs).ino⟩,true||(jO (zf (zT nm (zf s.ino f.xs).es) f.xs).data&&decide (rest = [])),n+1),⟨by dsimp only;rw[hk1];exact hon,by dsimp only;omega,by dsimp only;rw[Wn];omega,fun _=>by
        dsimp only;split
        ·exact hf.root
        ·rw[hgs.2.2];exact hh⟩,by dsimp only;rw[Wn];omega,wk⟩
    | true =>
     rw[if_neg (by rintro (q | q | q);exact absurd (hxe.symm.trans q) (by simp);exact q hk3;cases q.2.1)]at hon;have hlk:=Nq f true dir rest s n (zf (zT nm (zf s.ino f.xs).es) f.xs) (zf s.ino f.xs) (by omega) (by omega) hn;push_cast [hpos,hl1,hk2',n1',n2',hk3',hg1]
     repeat refine an ?_
     refine cl hg ?_;push_cast [hk2',n1',n2'];refine cl hfd ?_;push_cast;refine cl hg2 ?_;push_cast [hk3',hrl,hg1];refine jI [0] [] hlk rfl (by decide) (by decide) (by simp) (by push_cast) (by push_cast) (fun r bx' m hp=>?_);obtain ⟨rfl,⟨q1,rfl,rfl⟩ | ⟨q1,q2,rfl,rfl⟩ | ⟨q1,q2,rfl,rfl⟩⟩:=hp
     ·push_cast;have hk0:40-n=0:=by omega
      rw[hk0]at hon;have hon:(jj,(6:Int))=R:=hon;rw[←hon];exact ⟨_,[XF],0,⟨⟨rfl,rfl,[],rfl⟩,by simp⟩,[],rfl,rfl,by push_cast [ze,zd,CLe,zh],by push_cast [ze,zd,CLe,zh,jj]⟩
     ·push_cast;have hk0:40-n=(39-n)+1:=by omega
      rw[hk0,QP,if_pos q2]at hon;rw[←hon];exact ⟨_,[XF],0,⟨⟨rfl,rfl,[],rfl⟩,by simp⟩,[],rfl,rfl,by push_cast [ze,zd,CLe,zh],by push_cast [ze,zd,CLe,zh,jj]⟩
     ·push_cast;have hk0:40-n=(39-n)+1:=by omega
      have hk1:40-(n+1)=39-n:=by omega
      rw[hk0,QP,if_neg (by rw[q2];simp)]at hon;have hnl:=qP (zf (zT nm (zf s.ino f.xs).es) f.xs).data;exact ⟨(zp (zf (zT nm (zf s.ino f.xs).es) f.xs).data++rest,⟨0,[],if zaC (zf (zT nm (zf s.ino f.xs).es) f.xs).data then 1 else (zf s.ino f.xs).ino⟩,dir||(jO (zf (zT nm (zf s.ino f.xs).es) f.xs).data&&decide (rest = [])),n+1),⟨by dsimp only;rw[hk1];exact hon,by dsimp only;omega,by dsimp only;rw[Wn];omega,fun _=>by
       dsimp only;split
       ·exact hf.root
       ·rw[hgs.2.2];exact hh⟩,by dsimp only;rw[Wn];omega,wk⟩
   ·have hg1:((0:Int)<(rest.length:Int))=True:=eq_true (by have:=WI.2 hr0;omega);rw[if_neg (by rintro (q | q | q);exact absurd (hxe.symm.trans q) (by simp);exact q hk3;exact hr0 q.1)]at hon;have hlk:=Nq f fol dir rest s n (zf (zT nm (zf s.ino f.xs).es) f.xs) (zf s.ino f.xs) (by omega) (by omega) hn;push_cast [hpos,hl1,hk2',n1',n2',hk3',hg1]
    repeat refine an ?_
    refine cl hg ?_;push_cast [hk2',n1',n2'];refine cl hfd ?_;push_cast;refine cl hg2 ?_;push_cast [hk3',hrl,hg1];refine jI [0] [] hlk rfl (by decide) (by decide) (by simp) (by push_cast) (by push_cast) (fun r bx' m hp=>?_);obtain ⟨rfl,⟨q1,rfl,rfl⟩ | ⟨q1,q2,rfl,rfl⟩ | ⟨q1,q2,rfl,rfl⟩⟩:=hp
    ·push_cast;have hk0:40-n=0:=by omega
     rw[hk0]at hon;have hon:(jj,(6:Int))=R:=hon;rw[←hon];exact ⟨_,[XF],0,⟨⟨rfl,rfl,[],rfl⟩,by simp⟩,[],rfl,rfl,by push_cast [ze,zd,CLe,zh],by push_cast [ze,zd,CLe,zh,jj]⟩
    ·push_cast;have hk0:40-n=(39-n)+1:=by omega
     rw[hk0,QP,if_pos q2]at hon;rw[←hon];exact ⟨_,[XF],0,⟨⟨rfl,rfl,[],rfl⟩,by simp⟩,[],rfl,rfl,by push_cast [ze,zd,CLe,zh],by push_cast [ze,zd,CLe,zh,jj]⟩
    ·push_cast;have hk0:40-n=(39-n)+1:=by omega
     have hk1:40-(n+1)=39-n:=by omega
     rw[hk0,QP,if_neg (by rw[q2];simp)]at hon;have hnl:=qP (zf (zT nm (zf s.ino f.xs).es) f.xs).data;exact ⟨(zp (zf (zT nm (zf s.ino f.xs).es) f.xs).data++rest,⟨0,[],if zaC (zf (zT nm (zf s.ino f.xs).es) f.xs).data then 1 else (zf s.ino f.xs).ino⟩,dir||(jO (zf (zT nm (zf s.ino f.xs).es) f.xs).data&&decide (rest = [])),n+1),⟨by dsimp only;rw[hk1];exact hon,by dsimp only;omega,by dsimp only;rw[Wn];omega,fun _=>by
      dsimp only;split
      ·exact hf.root
      ·rw[hgs.2.2];exact hh⟩,by dsimp only;rw[Wn];omega,wk⟩
end
section
open CA CB
open Go.RowKit
theorem Vr (f:FsV) (hf:FsI f) (hr:FsR f) (hs:FsS f) (hd:∀ x∈f.xs,x.kind=3->x.data.length<=1000) (b p:Lz) (fol:Bool) (hb:b.length<=100000) (hp:p.length<=3000):Fun Tryz.prog G0 99 [.agg (fsC f),.str b,.str p,.sc (.bool fol)] (.tup [.agg (Ye (zR f b p fol).1),.sc (.int .i64 (zR f b p fol).2)]) 0:=by
 have hlo:=zax p (by omega);have hns:=qP p;have bad:∀ e:Int,e≠0->zR f b p fol=(jj,e)->Fun Tryz.prog G0 146 [.agg (fsC f),.str b,.str p,.sc (.bool fol)] (.tup [.any,.sc (.int .i64 e)]) 0->Fun Tryz.prog G0 99 [.agg (fsC f),.str b,.str p,.sc (.bool fol)] (.tup [.agg (Ye (zR f b p fol).1),.sc (.int .i64 (zR f b p fol).2)]) 0:=fun e he hv hb=>by
  refine fon Tryz.func99 ?_;dsimp only[Tryz.f99];push_cast;refine cl hb ?_;push_cast [he];exact dn (by push_cast [ze,zd,CLe,zh,hv,jj])
 by_cases h1:p = []
 ·subst h1;refine bad 1 (by decide) (by unfold zR;rw[if_pos rfl]) ?_;refine fon Tryz.func146 ?_;dsimp only[Tryz.f146];push_cast;exact dn
 have h1':=Wy h1;cases h2:UQ p with
 | true =>
  rw[h2]at hlo;refine bad 7 (by decide) (by unfold zR;rw[if_neg h1,if_pos h2]) ?_;refine fon Tryz.func146 ?_;dsimp only[Tryz.f146];push_cast [h1'];refine cl hlo ?_;push_cast;exact dn
 | false =>
 rw[h2]at hlo;have hre:Fun Tryz.prog G0 125 [.str p] (.agg [qJ (zaC p),.own 0 9 1 (zV (zp p)),qJ (jO p)]) 1:=ke p (by omega);have good:∀ h:Int,zR f b p fol=onN f fol 40 (zp p) ⟨0,[],h⟩ (jO p)->(h≠0->zl h f.xs=true)->YX Tryz.prog G0 146 [.agg (fsC f),.str b,.str p,.sc (.bool fol)] [] 0 (fun r bx m=>m=0/\r = .tup [.ptr 2 0,.sc (.int .i64 0)]/\bx = [[.any,.any,.any,.any],[.any,.any,.any],zl2 f fol (jO p) (zp p) ⟨0,[],h⟩ (0:Nat)])->Fun Tryz.prog G0 99 [.agg (fsC f),.str b,.str p,.sc (.bool fol)] (.tup [.agg (Ye (zR f b p fol).1),.sc (.int .i64 (zR f b p fol).2)]) 0:=fun h hv hh hbg=>by
  have hgo:=zeA f hf hr hs fol (jO p) (zp p) ⟨0,[],h⟩ (by omega) hd hh _ hv.symm;refine fon Tryz.func99 ?_;dsimp only[Tryz.f99];push_cast;refine jI [] [] hbg rfl (by decide) (by decide) (by simp) (by push_cast) rfl (fun r bx' m hp=>?_);obtain ⟨rfl,rfl,rfl⟩:=hp;push_cast;refine jI [4] [] hgo rfl (by decide) (by decide) (by simp) (by push_cast) rfl (fun r bx' m hp=>?_);obtain ⟨rfl,rfl,X,rfl⟩:=hp;push_cast;exact dn
 cases h3:zaC p with
 | true =>
  rw[h3]at hre;refine good 1 (by unfold zR;rw[if_neg h1,if_neg (by rw[h2];decide),if_pos h3]) (fun _=>hf.root) ?_;refine foX (fun _=>[]) Tryz.func146 ?_;dsimp only[Tryz.f146];push_cast [h1'];refine cl hlo ?_;push_cast;refine cl hre ?_;push_cast;exact ⟨_,[_,_,_],0,⟨⟨rfl,rfl,rfl⟩,Wb _⟩,[],rfl,rfl,by push_cast [ze,zd,CLe,zh],by push_cast [ze,zd,CLe,zh]⟩
 | false =>
  rw[h3]at hre;have hh:=zef f hf hs b hb;by_cases h4:(Ze f b).2=0
  ·rw[h4]at hh;refine good (Ze f b).1 (by unfold zR;rw[if_neg h1,if_neg (by rw[h2];decide),if_neg (by rw[h3];decide),if_neg (fun q=>q h4)]) (fun hne=>?_) ?_
   ·unfold Ze at hne h4 ⊢;split at hne
    ·exact absurd rfl hne
    rename_i c1;rw[if_neg c1]at h4 ⊢;split at hne
    ·exact absurd rfl hne
    rename_i c2;rw[if_neg c2]at h4 ⊢;split at hne
    ·exact absurd rfl hne
    rename_i c3;rw[if_neg c3];have q:=Vx (WB.1 c3);rw[(zj q).2.2];exact q
   ·refine foX (fun _=>[]) Tryz.func146 ?_;dsimp only[Tryz.f146];push_cast [h1'];refine cl hlo ?_;push_cast;refine cl hre ?_;push_cast;refine cl hh ?_;push_cast;exact ⟨_,[_,_,_],0,⟨⟨rfl,rfl,rfl⟩,Wb _⟩,[],rfl,rfl,by push_cast [ze,zd,CLe,zh],by push_cast [ze,zd,CLe,zh]⟩
  ·refine bad _ h4 (by unfold zR;rw[if_neg h1,if_neg (by rw[h2];decide),if_neg (by rw[h3];decide),if_pos h4]) ?_;refine fon Tryz.func146 ?_;dsimp only[Tryz.f146];push_cast [h1'];refine cl hlo ?_;push_cast;refine cl hre ?_;push_cast;refine cl hh ?_;push_cast [h4];exact dn
end
section
open CA CB
open Go.RowKit QuotePlain
abbrev u8C (b:UInt8):C:=.sc (.int .u8 (b.toNat:Int))
theorem Mg (l:Lz) (c:UInt8):(Lib.indexByte l c<0)↔c∉l:=by
 constructor
 ·intro h hc;have h1:=Lib.indexByte_ge l c;obtain ⟨k,hk,e⟩:=Wt hc;exact Lib.indexByte_none (show Lib.indexByte l c = -1 by omega) k (by rw[Wa hk,e])
 ·intro h;rcases Int.lt_or_le (Lib.indexByte l c) 0 with h1 | h1
  ·exact h1
  ·obtain ⟨o,ho⟩:∃ o:Nat,Lib.indexByte l c=o:=⟨(Lib.indexByte l c).toNat,by omega⟩;obtain ⟨h2,_⟩:=Lib.indexByte_some ho;exact absurd (Wg h2) h
theorem Hb (s:Lz) (c:UInt8) (hs:s.length<=1000000):Fun Tryz.prog G0 66 [.str s,u8C c] (.sc (.bool (decide (c∈s)))) 0:=by
 refine fon Tryz.func66 ?_;dsimp only[Tryz.f66];push_cast;refine loop (fun k:Nat=>⟨[(0,.str s),(1,u8C c),(5,.sc (.int .i64 k))],[],0,0⟩) (fun k=>k<=s.length/\c∉s.take k) (fun k=>s.length-k) 0 ⟨Wb _,by simp⟩ ?_ ?_
 ·exact wk
 ·rintro k ⟨hk,hn⟩;push_cast;refine br (fun h=>?_) (fun h=>?_)
  ·have hk2:k<s.length:=by simp at h;omega
   have hg:s[k]?=some s[k]:=Wa hk2;push_cast [hg];refine ⟨by omega,br (fun h2=>?_) (fun h2=>?_)⟩
   ·push_cast;have h3:s[k]=c:=by simp at h2;exact Am.1 (by omega)
    have h4:c∈s:=h3▸Ww hk2;exact dn (by push_cast [ze,zd,CLe,zh,h4])
   ·push_cast;have h3:¬c=s[k]:=fun e=>by subst e;simp at h2
    refine ⟨by omega,k+1,⟨by omega,?_⟩,by omega,wk⟩;intro h4;rw[WQ,hg]at h4;rcases WC.1 h4 with h5 | h5
    ·exact hn h5
    ·simp at h5;exact h3 h5
  ·have hk2:k=s.length:=by simp at h;omega
   subst hk2;rw[Oi]at hn;push_cast;exact dn (by push_cast [ze,zd,CLe,zh,hn])
theorem vy (k:Int) (o:Lz) (ops:C) (c:UInt8) (hops:ops.cellB=true):Fun Tryz.prog G0 98 [.agg [.sc (.int .i64 k),.str o,ops],u8C c] (.sc (.bool (decide (c∈o)))) 0:=by
 refine fon Tryz.func98 ?_;dsimp only[Tryz.f98];push_cast [hops];refine cl (ZR o c) ?_;push_cast;have e:decide (0<=Lib.indexByte o c)=decide (c∈o):=by
  have:=Mg o c;by_cases h:c∈o
  ·have h2:¬Lib.indexByte o c<0:=fun h3=>this.1 h3 h;simp[h];omega
  ·have h2:=this.2 h;simp[h];omega
 exact dn (by push_cast [ze,zd,CLe,zh,e])
theorem ztm (c d:UInt8):((c.toNat:Int)=(d.toNat:Int))=(c=d):=by
 refine propext ⟨fun h=>Am.1 (by omega),fun h=>by rw[h]⟩
def Qq (s p:Lz):UInt8:=s.foldl (fun c b=>if b∈p then b else c) 0
theorem GK (s p:Lz) (i:Nat) (hi:i<s.length):Qq (s.take (i+1)) p=if s[i]∈p then s[i] else Qq (s.take i) p:=by
 unfold Qq;rw[WQ,Wa hi,List.foldl_append];simp
theorem xH (s p:Lz) (hs:s.length<=1000000) (hp:p.length<=1000000):Fun Tryz.prog G0 111 [.str s,.str p] (u8C (Qq s p)) 0:=by
 refine fon Tryz.func111 ?_;dsimp only[Tryz.f111];push_cast;refine loop (fun k:Nat=>⟨[(0,.str s),(1,.str p),(5,u8C (Qq (s.take k) p)),(6,.sc (.int .i64 k))],[],0,0⟩) (fun k=>k<=s.length) (fun k=>s.length-k) 0 (Wb _) ?_ ?_
 ·exact JY.mk [] rfl rfl (Wc _) rfl (by push_cast [ze,zd,CLe,zh]<;>rfl) (by push_cast [ze,zd,CLe,zh])
 ·rintro k hk;push_cast;refine br (fun h=>?_) (fun h=>?_)
  ·have hk2:k<s.length:=by simp at h;omega
   have hg:s[k]?=some s[k]:=Wa hk2;push_cast [hg];refine ⟨by omega,?_⟩;refine cl (Hb p s[k] hp) ?_;push_cast;refine br (fun h2=>?_) (fun h2=>?_)
   ·push_cast [hg];have e:Qq (s.take (k+1)) p=s[k]:=by rw[GK s p k hk2,if_pos (by simpa using h2)]
    refine ⟨by omega,by omega,k+1,by omega,by omega,wk (by push_cast [ze,zd,CLe,zh,e])⟩
   ·push_cast [hg];have e:Qq (s.take (k+1)) p=Qq (s.take k) p:=by rw[GK s p k hk2,if_neg (by simpa using h2)]
    refine ⟨by omega,k+1,by omega,by omega,wk (by push_cast [ze,zd,CLe,zh,e])⟩
  ·have hk2:k=s.length:=by simp at h;omega
   subst hk2;rw[Oi];push_cast;exact dn
def isO (k:Int) (s:Lz) (x:UInt8):Bool:=if 4<=k/\(x=102∨x=110) then decide (Qq s [102,110]=x) else if x=114 then decide (114∈s∨82∈s) else if x=82 then false else decide (x∈s)
def YK (k:Int) (s:Lz) (n:Nat):Lz:=((List.range' 65 n).map UInt8.ofNat).filter (isO k s)
theorem v8 (k:Int) (s:Lz) (hs:s.length<=1000000):Fun Tryz.prog G0 65 [.sc (.int .i64 k),.str s] (.str (YK k s 58)) 0:=by
 refine fon Tryz.func65 ?_;dsimp only[Tryz.f65];push_cast;refine loop (fun j:Nat=>⟨[(0,.sc (.int .i64 k)),(1,.str s),(5,.str (YK k s j)),(6,.sc (.int .i64 (65+j)))],[],0,0⟩) (fun j=>j<=58) (fun j=>58-j) 0 (Wb _) ?_ ?_
 ·exact JY.mk [] rfl rfl (Wc _) rfl (by push_cast [ze,zd,CLe,zh]<;>rfl) (by push_cast [ze,zd,CLe,zh])
 ·rintro j hj;push_cast;refine br (fun h=>?_) (fun h=>?_)
  ·have hj2:j<58:=by simp at h;omega
   obtain ⟨x,hxe,hx⟩:∃ x:UInt8,UInt8.ofNat (65+j)=x/\(65+(j:Int))=(x.toNat:Int):=⟨_,rfl,by rw[UInt8.toNat_ofNat_of_lt' (by show 65+j<256;omega)];omega⟩;have hx1:65+((j:Int)+1)=(x.toNat:Int)+1:=by omega
   have hxb:(x.toNat:Int)<123:=by omega
   have hstep:YK k s (j+1)=YK k s j++if isO k s x then [x] else []:=by
    unfold YK;rw[List.range'_concat,WS,Oz];simp only[Wq,WL,Nat.one_mul,hxe,O4,BO]
   have hlo:(YK k s j).length<=j:=WJ (OI _ _) (by simp);have hI:∀ (n:Nat) (d:UInt8),d.toNat=n->((x.toNat:Int)=(n:Int))=(x=d):=fun n d h=>h▸ztm x d;have hcase:(x=82)∨(x=114)∨(x≠82/\x≠114/\¬4<=k)∨(x=102/\4<=k)∨(x=110/\4<=k)∨(x≠82/\x≠114/\4<=k/\x≠102/\x≠110):=by
    by_cases h1:x=82
    ·exact .inl h1
    ·by_cases h2:x=114
     ·exact .inr (.inl h2)
     ·by_cases h3:4<=k
      ·by_cases h4:x=102
       ·exact .inr (.inr (.inr (.inl ⟨h4,h3⟩)))
       ·by_cases h5:x=110
        ·exact .inr (.inr (.inr (.inr (.inl ⟨h5,h3⟩))))
        ·exact .inr (.inr (.inr (.inr (.inr ⟨h1,h2,h3,h4,h5⟩))))
      ·exact .inr (.inr (.inl ⟨h1,h2,h3⟩))
   clear hxe;rw[hx];push_cast;refine ⟨by omega,?_⟩;refine cl (Hb s x hs) ?_;push_cast;rcases hcase with hc | hc | hc | hc | hc | hc
   ·have f0:isO k s x=false:=by simp[isO,hc]
    have e:YK k s (j+1)=YK k s j:=by rw[hstep,f0];simp
    have f1:((x.toNat:Int)=82)=True:=(hI 82 82 rfl).trans (by simp[hc]);have f2:((x.toNat:Int)=114)=False:=(hI 114 114 rfl).trans (by simp[hc]);have f3:((x.toNat:Int)=102)=False:=(hI 102 102 rfl).trans (by simp[hc]);have f4:((x.toNat:Int)=110)=False:=(hI 110 110 rfl).trans (by simp[hc]);by_cases h4:4<=k
    all_goals
     push_cast [f1,f2,f3,f4,h4]
     repeat (refine And.intro (by omega) ?_)
     refine ⟨j+1,by omega,by omega,wk (by push_cast [ze,zd,CLe,zh,e,hx1])⟩
   ·have f0:isO k s x=decide (114∈s∨82∈s):=by simp[isO,hc]
    have f1:((x.toNat:Int)=82)=False:=(hI 82 82 rfl).trans (by simp[hc]);have f2:((x.toNat:Int)=114)=True:=(hI 114 114 rfl).trans (by simp[hc]);have f3:((x.toNat:Int)=102)=False:=(hI 102 102 rfl).trans (by simp[hc]);have f4:((x.toNat:Int)=110)=False:=(hI 110 110 rfl).trans (by simp[hc]);push_cast [f1,f2,f3,f4];refine cl (Hb s 114 hs) ?_;push_cast;by_cases h6:114∈s
    ·push_cast [h6];have e:YK k s (j+1)=YK k s j++[x]:=by rw[hstep,f0];simp[h6]
     by_cases h4:4<=k
     all_goals
      push_cast [f1,f2,f3,f4,h4];refine ⟨[x],rfl,?_⟩;push_cast
      repeat (refine And.intro (by omega) ?_)
      refine ⟨j+1,by omega,by omega,wk (by push_cast [ze,zd,CLe,zh,e,hx1])⟩
    ·push_cast [h6];refine cl (Hb s 82 hs) ?_;push_cast;by_cases h7:82∈s
     ·have e:YK k s (j+1)=YK k s j++[x]:=by rw[hstep,f0];simp[h7]
      by_cases h4:4<=k
      all_goals
       push_cast [f1,f2,f3,f4,h4,h7];refine ⟨[x],rfl,?_⟩;push_cast
       repeat (refine And.intro (by omega) ?_)
       refine ⟨j+1,by omega,by omega,wk (by push_cast [ze,zd,CLe,zh,e,hx1])⟩
     ·have e:YK k s (j+1)=YK k s j:=by rw[hstep,f0];simp[h6,h7]
      by_cases h4:4<=k
      all_goals
       push_cast [f1,f2,f3,f4,h4,h7]
       repeat (refine And.intro (by omega) ?_)
       refine ⟨j+1,by omega,by omega,wk (by push_cast [ze,zd,CLe,zh,e,hx1])⟩
   ·have f0:isO k s x=decide (x∈s):=by simp[isO,hc]
    have h4:¬4<=k:=hc.2.2;have f1:((x.toNat:Int)=82)=False:=(hI 82 82 rfl).trans (by simp[hc]);have f2:((x.toNat:Int)=114)=False:=(hI 114 114 rfl).trans (by simp[hc]);by_cases h6:x∈s
    ·have e:YK k s (j+1)=YK k s j++[x]:=by rw[hstep,f0];simp[h6]
     push_cast [f1,f2,h4,h6];refine ⟨[x],rfl,?_⟩;push_cast
     repeat (refine And.intro (by omega) ?_)
     refine ⟨j+1,by omega,by omega,wk (by push_cast [ze,zd,CLe,zh,e,hx1])⟩
    ·have e:YK k s (j+1)=YK k s j:=by rw[hstep,f0];simp[h6]
     push_cast [f1,f2,h4,h6]
     repeat (refine And.intro (by omega) ?_)
     refine ⟨j+1,by omega,by omega,wk (by push_cast [ze,zd,CLe,zh,e,hx1])⟩
   ·have f0:isO k s x=decide (Qq s [102,110]=x):=by simp[isO,hc]
    have h4:4<=k:=hc.2;have f1:((x.toNat:Int)=82)=False:=(hI 82 82 rfl).trans (by simp[hc]);have f2:((x.toNat:Int)=114)=False:=(hI 114 114 rfl).trans (by simp[hc]);have f3:((x.toNat:Int)=102)=True:=(hI 102 102 rfl).trans (by simp[hc]);have f4:((x.toNat:Int)=110)=False:=(hI 110 110 rfl).trans (by simp[hc]);push_cast [f1,f2,f3,f4,h4];refine cl (xH s [102,110] hs (by simp)) ?_;push_cast;by_cases h6:Qq s [102,110]=x
    ·have g6:((Qq s [102,110]).toNat=x.toNat)=True:=by simp[h6]
     have e:YK k s (j+1)=YK k s j++[x]:=by rw[hstep,f0];simp[h6]
     push_cast [g6];refine ⟨[x],rfl,?_⟩;push_cast
     repeat (refine And.intro (by omega) ?_)
     refine ⟨j+1,by omega,by omega,wk (by push_cast [ze,zd,CLe,zh,e,hx1])⟩
    ·have g6:((Qq s [102,110]).toNat=x.toNat)=False:=by simp[Am,h6]
     have e:YK k s (j+1)=YK k s j:=by rw[hstep,f0];simp[h6]
     push_cast [g6]
     repeat (refine And.intro (by omega) ?_)
     refine ⟨j+1,by omega,by omega,wk (by push_cast [ze,zd,CLe,zh,e,hx1])⟩
   ·have f0:isO k s x=decide (Qq s [102,110]=x):=by simp[isO,hc]
    have h4:4<=k:=hc.2;have f1:((x.toNat:Int)=82)=False:=(hI 82 82 rfl).trans (by simp[hc]);have f2:((x.toNat:Int)=114)=False:=(hI 114 114 rfl).trans (by simp[hc]);have f3:((x.toNat:Int)=102)=False:=(hI 102 102 rfl).trans (by simp[hc]);have f4:((x.toNat:Int)=110)=True:=(hI 110 110 rfl).trans (by simp[hc]);push_cast [f1,f2,f3,f4,h4];refine cl (xH s [102,110] hs (by simp)) ?_;push_cast;by_cases h6:Qq s [102,110]=x
    ·have g6:((Qq s [102,110]).toNat=x.toNat)=True:=by simp[h6]
     have e:YK k s (j+1)=YK k s j++[x]:=by rw[hstep,f0];simp[h6]
     push_cast [g6];refine ⟨[x],rfl,?_⟩;push_cast
     repeat (refine And.intro (by omega) ?_)
     refine ⟨j+1,by omega,by omega,wk (by push_cast [ze,zd,CLe,zh,e,hx1])⟩
    ·have g6:((Qq s [102,110]).toNat=x.toNat)=False:=by simp[Am,h6]
     have e:YK k s (j+1)=YK k s j:=by rw[hstep,f0];simp[h6]
     push_cast [g6]
     repeat (refine And.intro (by omega) ?_)
     refine ⟨j+1,by omega,by omega,wk (by push_cast [ze,zd,CLe,zh,e,hx1])⟩
   ·have f0:isO k s x=decide (x∈s):=by simp[isO,hc]
    have h4:4<=k:=hc.2.2.1;have f1:((x.toNat:Int)=82)=False:=(hI 82 82 rfl).trans (by simp[hc]);have f2:((x.toNat:Int)=114)=False:=(hI 114 114 rfl).trans (by simp[hc]);have f3:((x.toNat:Int)=102)=False:=(hI 102 102 rfl).trans (by simp[hc]);have f4:((x.toNat:Int)=110)=False:=(hI 110 110 rfl).trans (by simp[hc]);by_cases h6:x∈s
    ·have e:YK k s (j+1)=YK k s j++[x]:=by rw[hstep,f0];simp[h6]
     push_cast [f1,f2,f3,f4,h4,h6];refine ⟨[x],rfl,?_⟩;push_cast
     repeat (refine And.intro (by omega) ?_)
     refine ⟨j+1,by omega,by omega,wk (by push_cast [ze,zd,CLe,zh,e,hx1])⟩
    ·have e:YK k s (j+1)=YK k s j:=by rw[hstep,f0];simp[h6]
     push_cast [f1,f2,f3,f4,h4,h6]
     repeat (refine And.intro (by omega) ?_)
     refine ⟨j+1,by omega,by omega,wk (by push_cast [ze,zd,CLe,zh,e,hx1])⟩
  ·have hj2:j=58:=by simp at h;omega
   subst hj2;push_cast;exact dn
abbrev Acc:=Lz->UInt8->Lz
def Y7 (all:Lz) (f:Acc):Lz->Lz->Lz×Lz
 | a,[]=>(a,[])
 | a,c :: r=>if c∈all then Y7 all f (f a c) r else (a,[c])
def qE (all:Lz) (f:Acc):Lz->Nat->List Lz->Lz×Nat×Lz
 | a,n,[]=>(a,n,[])
 | a,n,w :: r=>if w = [45,45] then (a,n+1,[]) else if w.length<2∨w[0]?≠some 45 then (a,n,[]) else
   if (Y7 all f a w.tail).2 = [] then qE all f (Y7 all f a w.tail).1 (n+1) r else ((Y7 all f a w.tail).1,n,(Y7 all f a w.tail).2)
def X8 (k:Int):Lz:=if k=1 then [112] else if k=2 then [100,102,114,82] else if k=3 then [102,110,115,84] else if k=4 then [102,110,84] else if k=5 then [102,110,114,82,80,84] else []
abbrev Yq:Acc:=fun s c=>s++[c]
theorem zcY {all:Lz} {f:Acc} {a w:Lz} {i:Nat} (hi:i<w.length):Y7 all f a (w.drop i)=if w[i]∈all then Y7 all f (f a w[i]) (w.drop (i+1)) else (a,[w[i]]):=by
 rw[Oe hi,Y7]
theorem Mo {all:Lz} {f:Acc} {a:Lz} {n:Nat} (hn:n<l.length):qE all f a n (l.drop n)=if l[n] = [45,45] then (a,n+1,[]) else if l[n].length<2∨l[n][0]?≠some 45 then (a,n,[]) else
   if (Y7 all f a l[n].tail).2 = [] then qE all f (Y7 all f a l[n].tail).1 (n+1) (l.drop (n+1)) else ((Y7 all f a l[n].tail).1,n,(Y7 all f a l[n].tail).2):=by
 rw[Oe hn,qE]
theorem zmq {w:Lz} {i:Nat} (hi:i<w.length):(w.take (i+1)).drop i = [w[i]]:=by
 rw[WQ,Wa hi];exact List.drop_left' (by rw[W7];omega)
theorem zah (k:Int) (l:List Lz) (hk:k=1∨k=2∨k=3∨k=4∨k=5) (hl:l.length<=100) (hs:∀ x∈l,x.length<=1000) :
  Fun Tryz.prog G0 64 [.sc (.int .i64 k),.sl 1 (zV l)] (.tup [.str (qE (X8 k) Yq [] 0 l).1,.sc (.int .i64 (qE (X8 k) Yq [] 0 l).2.1),.str (qE (X8 k) Yq [] 0 l).2.2]) 0:=by
 obtain ⟨A,hA⟩:∃ A,X8 k=A:=⟨_,rfl⟩;have hall:A.length<=1000000:=by
  subst hA;rcases hk with rfl | rfl | rfl | rfl | rfl<;>decide
 rw[hA];refine fon Tryz.func64 ?_;dsimp only[Tryz.f64];rcases hk with rfl | rfl | rfl | rfl | rfl
 case' inl=>have e:A = [112]:=hA.symm.trans rfl
 case' inr.inl=>have e:A = [100,102,114,82]:=hA.symm.trans rfl
 case' inr.inr.inl=>have e:A = [102,110,115,84]:=hA.symm.trans rfl
 case' inr.inr.inr.inl=>have e:A = [102,110,84]:=hA.symm.trans rfl
 case' inr.inr.inr.inr=>have e:A = [102,110,114,82,80,84]:=hA.symm.trans rfl
 all_goals
  push_cast;refine loop (fun p:Nat×Lz=>⟨[(1,.sl 1 (zV l)),(7,.str A),(8,.str p.2),(9,.sc (.int .i64 p.1))],[],0,0⟩) (fun p=>p.1<=l.length/\qE A Yq [] 0 l=qE A Yq p.2 p.1 (l.drop p.1)/\p.2.length<=1000*p.1) (fun p=>l.length-p.1) (0,[]) ⟨Wb _,rfl,Wb _⟩ ?_ ?_
  ·exact wk (by push_cast [ze,zd,CLe,zh,e])
  ·clear e hA;rintro ⟨n,s⟩ ⟨hn,hq,hsl⟩;dsimp only at hn hq hsl ⊢;by_cases h:n<l.length
   ·have hg:=Zo l n h;have hlw:=hs l[n] (Ww h);have hstep:=Mo (all:=A) (f:=Yq) (a:=s) h;generalize hw:l[n]=w at hg hlw hstep;by_cases h45:w = [45,45]
    ·rw[if_pos h45]at hstep;have hr:=hq.trans hstep;push_cast [h,hg,h45]
     repeat refine an ?_
     exact dn (by push_cast [ze,zd,CLe,zh,hr])
    ·rw[if_neg h45]at hstep;by_cases h2:w.length<2
     ·rw[if_pos (.inl h2)]at hstep;have hr:=hq.trans hstep;have h2':((w.length:Int)<2)=True:=eq_true (by omega);push_cast [h,hg,h45,h2']
      repeat refine an ?_
      exact dn (by push_cast [ze,zd,CLe,zh,hr])
     ·have h2':((w.length:Int)<2)=False:=Wy (by omega);have h0:w[0]?=some w[0]:=Wa (by omega);by_cases h3:w[0]=45
      ·have h3':((w[0].toNat:Int)=45)=True:=eq_true (by rw[h3];rfl);rw[if_neg (by rw[h0,h3];simp;omega)]at hstep;push_cast [h,hg,h45,h2',h0,h3']
       repeat refine an ?_
       refine loop (fun q:Nat×Lz=>⟨[(1,.sl 1 (zV l)),(7,.str A),(8,.str q.2),(9,.sc (.int .i64 n)),(10,.sc (.int .i64 q.1))],[],0,0⟩) (fun q=>1<=q.1/\q.1<=w.length/\Y7 A Yq s w.tail=Y7 A Yq q.2 (w.drop q.1)/\q.2.length+1<=1000*n+q.1) (fun q=>w.length-q.1) (1,s) ⟨Wc _,by dsimp only;omega,by simp,by dsimp only;omega⟩ ?_ ?_
       ·exact wk
       ·rintro ⟨i,t⟩ ⟨hi1,hi2,hi3,hi4⟩;dsimp only at hi1 hi2 hi3 hi4 ⊢;by_cases hi:i<w.length
        ·have hgi:w[i]?=some w[i]:=Wa hi;have hws:=zcY (all:=A) (f:=Yq) (a:=t) hi;push_cast [h,hg,hi,hgi]
         repeat refine an ?_
         refine cl (Hb A w[i] hall) ?_;push_cast;by_cases hm:w[i]∈A
         ·rw[if_pos hm]at hws;push_cast [hm,hg,hgi]
          repeat refine an ?_
          refine ⟨(i+1,t++[w[i]]),⟨by omega,by dsimp only;omega,hi3.trans hws,by simp;omega⟩,by dsimp only;omega,wk (by push_cast [ze,zd,CLe,zh,zmq hi])⟩
         ·rw[if_neg hm]at hws;rw[if_neg (by rw[hi3,hws];simp),hi3,hws]at hstep;have hr:=hq.trans hstep;push_cast [hm,hg,hgi]
          repeat refine an ?_
          exact dn (by push_cast [ze,zd,CLe,zh,hr,zmq hi])
        ·have hil:i=w.length:=by omega
         rw[hil,AL,Y7]at hi3;rw[if_pos (by rw[hi3]),hi3]at hstep;push_cast [h,hg,hi]
         repeat refine an ?_
         exact ⟨(n+1,t),⟨by dsimp only;omega,hq.trans hstep,by dsimp only;omega⟩,by dsimp only;omega,wk⟩
      ·have h3':((w[0].toNat:Int)=45)=False:=Wy (fun hh=>h3 (Am.1 (by show _=45;omega)));rw[if_pos (.inr (by rw[h0];simpa using h3))]at hstep;have hr:=hq.trans hstep;push_cast [h,hg,h45,h2',h0,h3']
       repeat refine an ?_
       exact dn (by push_cast [ze,zd,CLe,zh,hr])
   ·have hkl:n=l.length:=by omega
    subst hkl;have hr:=hq;rw[AL,qE]at hr;push_cast [h];exact dn (by push_cast [ze,zd,CLe,zh,hr])
def zfl (k:Int):Nat:=if k=4∨k=5 then 2 else 1
def jR (k:Int) (o:Lz) (ops:List Lz):Lz:=
 if ops.length=0 then (if k=2/\102∈o then [] else [109,105,115,115,105,110,103,32,111,112,101,114,97,110,100])
 else if ops.length<(if 84∈o then 2 else zfl k) then [109,105,115,115,105,110,103,32,100,101,115,116,105,110,97,116,105,111,110,32,111,112,101,114,97,110,100,32,97,102,116,101,114,32]++quoteL (ops.getD (ops.length-1) [])
 else if 84∈o/\2<ops.length then [101,120,116,114,97,32,111,112,101,114,97,110,100,32]++quoteL (ops.getD 2 []) else []
theorem Vy (l:Lz):(quoteL l).length<=4*l.length+2:=by
 have:=QuoteWalk.mid_len l;simp only[quoteL,Wh,Wn,WG];omega
structure zp5 where
 kind:Int
 opts:Lz
 operands:List Lz
def Yn (w:Lz):Nat->Int
 | 0=>0
 | j+1=>if jC ((j+1:Nat):Int)=w then ((j+1:Nat):Int) else Yn w j
def Qa:zp5:=⟨0,[],[]⟩
def jL (kind:Int) (w:Lz) (q:Lz×Nat×Lz) (r:List Lz):zp5×Lz:=
 if q.2.2≠[] then (Qa,w++[58,32,105,110,118,97,108,105,100,32,111,112,116,105,111,110,32]++quoteL q.2.2)
 else if jR kind (YK kind q.1 58) (r.drop q.2.1)≠[] then (Qa,w++[58,32]++jR kind (YK kind q.1 58) (r.drop q.2.1))
 else (⟨kind,YK kind q.1 58,r.drop q.2.1⟩,[])
def Yi:List Lz->zp5×Lz
 | []=>(Qa,[109,105,115,115,105,110,103,32,99,111,109,109,97,110,100])
 | w :: r=>if Yn w 5=0 then (Qa,quoteL w++[58,32,117,110,107,110,111,119,110,32,99,111,109,109,97,110,100])
  else jL (Yn w 5) w (qE (X8 (Yn w 5)) Yq [] 0 r) r
theorem x5 (w:Lz):∀ j,0<=Yn w j/\Yn w j<=j
 | 0=>⟨O0 _,O0 _⟩
 | j+1=>by
  have:=x5 w j;unfold Yn;split<;>omega
theorem yo (A:Lz) (f:Acc):∀ (w s:Lz),(Y7 A f s w).2.length<=1
 | [],s=>Wb _
 | c :: w,s=>by
  rw[Y7];split
  ·exact yo A f w _
  ·exact Wc _
theorem M8 (A:Lz):∀ (w s:Lz),(Y7 A Yq s w).1.length<=s.length+w.length
 | [],s=>by simp[Y7]
 | c :: w,s=>by
  rw[Y7];split
  ·have h0:(Yq s c).length=s.length+1:=by simp
   have:=M8 A w (Yq s c);simp only[Wh];omega
  ·simp only[Wh];omega
theorem Us (A:Lz):∀ (l:List Lz) (s:Lz) (n:Nat),(∀ x∈l,x.length<=1000)->(qE A Yq s n l).1.length<=s.length+1000*l.length/\(qE A Yq s n l).2.1<=n+l.length/\(qE A Yq s n l).2.2.length<=1
 | [],s,n,_=>by simp[qE]
 | w :: l,s,n,h=>by
  have hw:=h w (Wk ..);have h1:=yo A Yq w.tail s;have h2:=M8 A w.tail s;have h3:w.tail.length<=1000:=by rw[List.length_tail];omega
  have ih:=Us A l (Y7 A Yq s w.tail).1 (n+1) fun x hx=>h x (Wl _ hx);rw[qE];simp only[Wh];split
  ·simp only[WG];omega
  ·split
   ·simp only[WG];omega
   ·split
    ·omega
    ·dsimp only;omega
abbrev zuh (c:zp5):C:=.agg [.sc (.int .i64 c.kind),.str c.opts,.own 0 9 1 (zV c.operands)]
theorem zid (l:List Lz) (hl:l.length<=100) (hs:∀ x∈l,x.length<=1000) :
  Fun Tryz.prog G0 37 [.sl 1 (zV l)] (.tup [zuh (Yi l).1,.str (Yi l).2]) 1:=by
 refine fof (fun i=>if i=15 then [false,false,false,false,false,false,true,false,true] else []) Tryz.func37 ?_;dsimp only[Tryz.f37];rcases l with _ | ⟨w,r⟩
 ·push_cast [zV,WL,WG];exact ⟨[.inr (9,1)],rfl,rfl,by push_cast [ze,zd,CLe,zh,Yi,Qa]<;>rfl⟩
 ·have hlr:r.length<=99:=by simp at hl;omega
  have hw:=hs w (Wk ..);have hsr:∀ x∈r,x.length<=1000:=fun x hx=>hs x (Wl _ hx);have hsC:zV (w :: r) = [.str w] :: zV r:=rfl;have hp0:((r.length:Int)+1=0)=False:=Wy (by omega);rw[hsC];push_cast [hp0];refine loop (fun j:Nat=>⟨[(0,.sl 1 ([.str w] :: zV r)),(2,.ptr 0 0),(4,.sc (.int .i64 (Yn w j))),(5,.sc (.int .i64 ((j:Int)+1)))],[[.sc (.int .i64 0),.str [],.sc (.slice none 0 0)]],0,0⟩) (fun j=>j<=5) (fun j=>5-j) 0 (Wb _) ?_ ?_
  ·exact wk (by push_cast [ze,zd,CLe,zh,Yn])
  ·rintro j hj;by_cases h:j<5
   ·have hp1:((j:Int)+1<=5)=True:=eq_true (by omega);push_cast [hp1];refine cl (yL ((j:Int)+1)) ?_;push_cast;have hku:Yn w (j+1)=if jC ((j:Int)+1)=w then (j:Int)+1 else Yn w j:=by simp[Yn]
    by_cases hm:jC ((j:Int)+1)=w
    ·rw[if_pos hm]at hku;push_cast [hm]
     repeat refine an ?_
     exact ⟨j+1,by omega,by omega,wk (by push_cast [ze,zd,CLe,zh,hku])⟩
    ·rw[if_neg hm]at hku;push_cast [hm]
     repeat refine an ?_
     exact ⟨j+1,by omega,by omega,wk (by push_cast [ze,zd,CLe,zh,hku])⟩
   ·have hp1:((j:Int)+1<=5)=False:=Wy (by omega);have hj5:j=5:=by omega
    subst hj5;have hkle:=x5 w 5;have hrd:Yi (w :: r)=if Yn w 5=0 then (Qa,quoteL w++[58,32,117,110,107,110,111,119,110,32,99,111,109,109,97,110,100]) else jL (Yn w 5) w (qE (X8 (Yn w 5)) Yq [] 0 r) r:=rfl;generalize Yn w 5=K at hkle hrd ⊢;by_cases hK0:K=0
    ·rw[if_pos hK0]at hrd;have hq:=Vy w;push_cast [hp1,hK0];refine cl (Zb w (by omega)) ?_;push_cast
     repeat refine an ?_
     exact ⟨[.inr (9,1)],rfl,rfl,by push_cast [ze,zd,CLe,zh,hrd,Qa]<;>rfl⟩
    ·rw[if_neg hK0]at hrd;have hkk:K=1∨K=2∨K=3∨K=4∨K=5:=by omega
     have hlet:=zah K r hkk (by omega) hsr;have hbnd:=Us (X8 K) r [] 0 hsr;generalize qE (X8 K) Yq [] 0 r=q at hlet hbnd hrd ⊢;obtain ⟨s,n,bad⟩:=q;dsimp only at hlet hbnd;push_cast [hp1,hK0]
     repeat refine an ?_
     refine cl hlet ?_;push_cast;by_cases hbad:bad = []
     ·have hdr:List.drop (1+(n:Int)).toNat ([C.str w] :: zV r)=zV (r.drop n):=by
       rw[show (1+(n:Int)).toNat=n+1 by omega,A8];simp[zV]
      have hop:(r.drop n).length<=99:=by rw[W3];omega
      have hso:∀ x∈r.drop n,x.length<=1000:=fun x hx=>hsr x (WU hx);have hrt:jL K w (s,n,bad) r=if jR K (YK K s 58) (r.drop n)≠[] then (Qa,w++[58,32]++jR K (YK K s 58) (r.drop n)) else (⟨K,YK K s 58,r.drop n⟩,[]):=by
       unfold jL;rw[if_neg (by simpa using hbad)]
      rw[hrt]at hrd;have h84:=Hb (YK K s 58) 84 (by have:=OI (isO K s) ((List.range' 65 58).map UInt8.ofNat);simp at this;unfold YK;omega);have h102:=Hb (YK K s 58) 102 (by have:=OI (isO K s) ((List.range' 65 58).map UInt8.ofNat);simp at this;unfold YK;omega);generalize r.drop n=ops at hop hso hrd hdr;push_cast [hbad];refine cl (v8 K s (by simp at hbnd;omega)) ?_;push_cast [hdr];generalize YK K s 58=O at h84 h102 hrd ⊢
      repeat refine an ?_
      have hleast:zfl K=if 4<=K then 2 else 1:=by
       unfold zfl;by_cases h4:4<=K
       ·rw[if_pos h4,if_pos (by omega)]
       ·rw[if_neg h4,if_neg (by omega)]
      rcases ops with _ | ⟨x,_ | ⟨y,_ | ⟨z,t⟩⟩⟩
      ·by_cases hK2:K=2/\102∈O
       ·have hwv:jR K O [] = []:=by simp[jR,hK2]
        have hr2:=hrd;rw[hwv,if_neg (by simp)]at hr2;have h4:¬4<=K:=by omega
        have hK2':=hK2.1;have m102:=hK2.2;by_cases m84:84∈O
        all_goals
         push_cast [h4,zV,WL,Wq,WG,Wh];refine cl h84 ?_;push_cast [m84,hK2',zV,WL,Wq,WG,Wh];refine cl h102 ?_;push_cast [m102,zV,WL,Wq,WG,Wh];exact ⟨[.inl 0],rfl,rfl,by push_cast [ze,zd,CLe,zh,hr2,hK2',zV,WL,Wq,WG,Wh]⟩
       ·have hwv:jR K O [] = [109,105,115,115,105,110,103,32,111,112,101,114,97,110,100]:=by simp[jR,hK2]
        have hr2:=hrd;rw[hwv,if_pos (by simp)]at hr2;by_cases hK2':K=2
        ·have m102:102∉O:=fun h=>hK2 ⟨hK2',h⟩;have h4:¬4<=K:=by omega
         by_cases m84:84∈O
         all_goals
          push_cast [h4,zV,WL,Wq,WG,Wh];refine cl h84 ?_;push_cast [m84,hK2',zV,WL,Wq,WG,Wh];refine cl h102 ?_;push_cast [m102,zV,WL,Wq,WG,Wh]
          repeat refine an ?_
          exact ⟨[.inr (9,1)],rfl,rfl,by push_cast [ze,zd,CLe,zh,hr2,Qa,WH,Of,OB]<;>rfl⟩
        ·by_cases h4:4<=K<;>by_cases m84:84∈O
         all_goals
          push_cast [h4,hK2',zV,WL,Wq,WG,Wh]
          try refine cl h84 ?_;push_cast [m84,hK2',zV,WL,Wq,WG,Wh]
          repeat refine an ?_
          exact ⟨[.inr (9,1)],rfl,rfl,by push_cast [ze,zd,CLe,zh,hr2,Qa,WH,Of,OB]<;>rfl⟩
      ·have hx:=hso x (by simp);have hqx:=Vy x;by_cases hl2:4<=K∨84∈O
       ·have hwv:jR K O [x] = [109,105,115,115,105,110,103,32,100,101,115,116,105,110,97,116,105,111,110,32,111,112,101,114,97,110,100,32,97,102,116,101,114,32]++quoteL x:=by
         unfold jR;rw[if_neg (by simp),if_pos (by rw[hleast];rcases hl2 with h | h<;>simp[h])];rfl
        have hr2:=hrd;rw[hwv,if_pos (by simp)]at hr2;have h3:(4<=K/\84∈O)∨(4<=K/\84∉O)∨(¬4<=K/\84∈O):=by
         by_cases a:4<=K<;>by_cases b:84∈O<;>simp[a,b]at hl2 ⊢
        rcases h3 with ⟨h4,m84⟩ | ⟨h4,m84⟩ | ⟨h4,m84⟩
        all_goals
         push_cast [h4,zV,WL,Wq,WG,Wh]
         try refine cl h84 ?_;push_cast [m84,zV,WL,Wq,WG,Wh]
         repeat refine an ?_
         refine cl (Zb x (by omega)) ?_;push_cast
         repeat refine an ?_
         exact ⟨[.inr (9,1)],rfl,rfl,by push_cast [ze,zd,CLe,zh,hr2,Qa,WH,Of,OB]<;>rfl⟩
       ·have h4:¬4<=K:=fun h=>hl2 (.inl h);have m84:84∉O:=fun h=>hl2 (.inr h);have hwv:jR K O [x] = []:=by
         unfold jR;rw[if_neg (by simp),hleast];simp[h4,m84]
        have hr2:=hrd;rw[hwv,if_neg (by simp)]at hr2;push_cast [h4,zV,WL,Wq,WG,Wh];refine cl h84 ?_;push_cast [m84,zV,WL,Wq,WG,Wh];exact ⟨[.inl 0],rfl,rfl,by push_cast [ze,zd,CLe,zh,hr2,zV,WL,Wq,WG,Wh]⟩
      ·have hwv:jR K O [x,y] = []:=by
        unfold jR;rw[if_neg (by simp),hleast];by_cases h4:4<=K<;>by_cases m84:84∈O<;>simp[h4,m84]
       have hr2:=hrd;rw[hwv,if_neg (by simp)]at hr2;by_cases h4:4<=K<;>by_cases m84:84∈O
       all_goals
        push_cast [h4,zV,WL,Wq,WG,Wh]
        try refine cl h84 ?_;push_cast [m84,zV,WL,Wq,WG,Wh]
        exact ⟨[.inl 0],rfl,rfl,by push_cast [ze,zd,CLe,zh,hr2,zV,WL,Wq,WG,Wh]⟩
      ·have hz:=hso z (by simp);have hqz:=Vy z;have hp0:((t.length:Int)+1+1+1=0)=False:=Wy (by omega);have hp2:((t.length:Int)+1+1+1<2)=False:=Wy (by omega);have hp3:((t.length:Int)+1+1+1<1)=False:=Wy (by omega);have hp4:(2<(t.length:Int)+1+1+1)=True:=eq_true (by omega);have hp5:(0<(t.length:Int)+1+1+1)=True:=eq_true (by omega);by_cases m84:84∈O
       ·have hwv:jR K O (x :: y :: z :: t) = [101,120,116,114,97,32,111,112,101,114,97,110,100,32]++quoteL z:=by
         unfold jR;rw[if_neg (by simp),hleast,if_neg (by simp[m84]),if_pos (by simp[m84])];rfl
        have hr2:=hrd;rw[hwv,if_pos (by simp)]at hr2;by_cases h4:4<=K
        all_goals
         push_cast [h4,hp0,hp2,hp3,hp4,hp5,zV,WL,Wq,WG,Wh]
         try refine cl h84 ?_;push_cast [m84,hp0,hp2,hp3,hp4,hp5,zV,WL,Wq,WG,Wh]
         try refine cl h84 ?_;push_cast [m84,hp0,hp2,hp3,hp4,hp5,zV,WL,Wq,WG,Wh]
         repeat refine an ?_
         refine cl (Zb z (by omega)) ?_;push_cast
         repeat refine an ?_
         exact ⟨[.inr (9,1)],rfl,rfl,by push_cast [ze,zd,CLe,zh,hr2,Qa,WH,Of,OB]<;>rfl⟩
       ·have hwv:jR K O (x :: y :: z :: t) = []:=by
         unfold jR;rw[if_neg (by simp),hleast];by_cases h4:4<=K<;>simp[h4,m84]
        have hr2:=hrd;rw[hwv,if_neg (by simp)]at hr2;by_cases h4:4<=K
        all_goals
         push_cast [h4,hp0,hp2,hp3,hp4,hp5,zV,WL,Wq,WG,Wh]
         try refine cl h84 ?_;push_cast [m84,hp0,hp2,hp3,hp4,hp5,zV,WL,Wq,WG,Wh]
         try refine cl h84 ?_;push_cast [m84,hp0,hp2,hp3,hp4,hp5,zV,WL,Wq,WG,Wh]
         exact ⟨[.inl 0],rfl,rfl,by push_cast [ze,zd,CLe,zh,hr2,zV,WL,Wq,WG,Wh]⟩
     ·have hqb:=Vy bad;have hrt:jL K w (s,n,bad) r=(Qa,w++[58,32,105,110,118,97,108,105,100,32,111,112,116,105,111,110,32]++quoteL bad):=by
       unfold jL;rw[if_pos (by simpa using hbad)]
      rw[hrt]at hrd;push_cast [hbad]
      repeat refine an ?_
      refine cl (Zb bad (by omega)) ?_;push_cast
      repeat refine an ?_
      exact ⟨[.inr (9,1)],rfl,rfl,by push_cast [ze,zd,CLe,zh,hrd,Qa]<;>rfl⟩
theorem zgJ (l:List Lz):(Yi l).1.operands.length<=l.length:=by
 cases l with
 | nil=>simp[Yi,Qa]
 | cons w r =>
  rw[Yi];split
  ·simp[Qa]
  ·unfold jL;split
   ·simp[Qa]
   ·split
    ·simp[Qa]
    ·simp only[W3,Wh];omega
end
section
open CA CB
open Go.RowKit
abbrev zpw (k:Int) (o:Lz) (ops:List Lz):List C:=[.sc (.int .i64 k),.str o,.sl 1 (zV ops)]
theorem zh0 (d:zX) (hd:d.diags.length<=80000) (k w:Int) (a b:Lz) (e:Int) (ha:a.length<=3000) (hb:b.length<=3000):Fun Tryz.prog GD 40 [GJ d,.sc (.int .i64 k),.sc (.int .i64 w),.str a,.str b,.sc (.int .i64 e)] (GJ (YJ d (Qb k w a b e))) 0:=
 (zes d hd k w a b e ha hb).weak (by push_cast [ze,zd,CLe,zh,YJ])
end
section
open CA CB
open Go.RowKit
theorem zlD {f:FsV} {p:Lz} (h:zl (zR f b p true).1.ino f.xs=false):Gx f b p=false:=by
 unfold Gx;rw[y9 h,AG];exact .inr rfl
theorem zjf (f:FsV) (hf:FsI f) (hr:FsR f) (hs:FsS f) (hd:Gd f.xs) (b p:Lz) (hb:b.length<=100000) (hp:p.length<=3000):Fun Tryz.prog G0 114 [.agg (fsC f),.str b,.str p] (.sc (.bool (Gx f b p))) 0:=by
 have hsk:=Vr f hf hr hs hd b p true hb hp;have hg:=jn (G:=G0) f (zR f b p true).1.ino (by have:=hs.len;omega) hf.rises;have e:Gx f b p=(decide ((zR f b p true).2=0)&&decide ((zf (zR f b p true).1.ino f.xs).kind=2)):=rfl;have hno:=zlD (f:=f) (b:=b) (p:=p);by_cases h1:(zR f b p true).2=0
 ·have h1':=eq_true h1;rw[Wm h1,Oj]at e;cases hh:zl (zR f b p true).1.ino f.xs with
  | false =>
   rw[hh]at hg;rw[hno hh];refine fon Tryz.func114 ?_;dsimp only[Tryz.f114];push_cast;refine cl hsk ?_;push_cast [h1'];refine cl hg ?_;push_cast [h1'];exact dn
  | true =>
   rw[hh]at hg;rw[e];refine fon Tryz.func114 ?_;dsimp only[Tryz.f114];push_cast;refine cl hsk ?_;push_cast [h1'];refine cl hg ?_;push_cast [h1'];exact dn
 ·have h1':=Wy h1;rw[Wj h1,W8]at e;rw[e];refine fon Tryz.func114 ?_;dsimp only[Tryz.f114];push_cast;refine cl hsk ?_;push_cast [h1'];refine cl hg ?_;push_cast [h1'];exact dn
theorem US {ops:List Lz} (h:0<ops.length):ops[ops.length-1]?=some (ops.getLastD []):=by
 rcases Ar ops with e | ⟨l,x,e⟩
 ·rw[e]at h;exact absurd h (Nat.lt_irrefl 0)
 ·rw[e,Ae,List.getLastD_concat];simp
theorem zkd (f:FsV) (hf:FsI f) (hr:FsR f) (hs:FsS f) (hd:Gd f.xs) (b:Lz) (hb:b.length<=100000) (k:Int) (o:Lz) (ops:List Lz) (hn:ops.length<=1000) (hp:∀ x∈ops,x.length<=1000):Fun Tryz.prog G0 68 [.agg (fsC f),.str b,.agg (zpw k o ops)] (.sc (.bool (zic f b k o ops))) 0:=by
 have hll:(zV ops).length=ops.length:=We ..;have e:zic f b k o ops=(!decide (ops.length<2)&&!decide ((84:UInt8)∈o)&&!ziw f b k o (ops.getLastD [])&&Gx f b (ops.getLastD [])):=rfl;have h84:=vy k o (.sl 1 (zV ops)) 84 rfl;have h110:=vy k o (.sl 1 (zV ops)) 110 rfl;by_cases c1:ops.length<2
 ·have c1':=eq_true (show (ops.length:Int)<2 by omega);rw[Wm c1]at e;rw[e];refine fon Tryz.func68 ?_;dsimp only[Tryz.f68];push_cast [hll,c1'];exact dn (by push_cast [ze,zd,CLe,zh,Av,W8])
 have c1':=Wy (show ¬(ops.length:Int)<2 by omega);rw[Wj c1]at e;by_cases c2:(84:UInt8)∈o
 ·rw[Wm c2]at e h84;rw[e];refine fon Tryz.func68 ?_;dsimp only[Tryz.f68];push_cast [hll,c1'];refine cl h84 ?_;push_cast;exact dn (by push_cast [ze,zd,CLe,zh,Av,W8,Al])
 rw[Wj c2]at e h84;have hlg:=US (ops:=ops) (by omega);have hla:(zV ops)[ops.length-1]?=some [.str (ops.getLastD [])]:=by rw[WA,hlg];rfl
 have hlx:((ops.length:Int)-1).toNat=ops.length-1:=by omega
 have hll2:(ops.getLastD []).length<=1000:=hp _ (Wg hlg);have hdi:=zjf f hf hr hs hd b (ops.getLastD []) hb (by omega);have hsk:=Vr f hf hr hs hd b (ops.getLastD []) false hb (by omega);have hg:=jn (G:=G0) f (zR f b (ops.getLastD []) false).1.ino (by have:=hs.len;omega) hf.rises;have el:ziw f b k o (ops.getLastD [])=(decide (k=3)&&decide ((110:UInt8)∈o)&&decide ((zR f b (ops.getLastD []) false).2=0)&&decide ((zf (zR f b (ops.getLastD []) false).1.ino f.xs).kind=3)):=rfl;clear hlg;generalize ops.getLastD []=p at *;have hno:zl (zR f b p false).1.ino f.xs=false->(zf (zR f b p false).1.ino f.xs).kind≠3:=fun q=>by rw[y9 q];exact show ¬(0:Int)=3 by decide
 generalize zR f b p false=T at *;by_cases c3:k=3
 ·have c3':=eq_true c3;by_cases c4:(110:UInt8)∈o
  ·rw[Wm c4]at h110 el;rw[Wm c3]at el;by_cases c5:T.2=0
   ·have c5':=eq_true c5;rw[Wm c5]at el;cases c6:zl T.1.ino f.xs with
    | false =>
     rw[c6]at hg;rw[Wj (hno c6)]at el;rw[el]at e;rw[e];refine fon Tryz.func68 ?_;dsimp only[Tryz.f68];push_cast [hll,c1'];refine cl h84 ?_;push_cast;push_cast [hll,hla,hlx,c3']
     repeat refine an ?_
     refine cl h110 ?_;push_cast;refine cl hsk ?_;push_cast [c5'];refine cl hg ?_;push_cast [c5'];refine cl hdi ?_;push_cast;exact dn (by push_cast [ze,zd,CLe,zh,Al,Ab,Oj])
    | true =>
     rw[c6]at hg;by_cases c7:(zf T.1.ino f.xs).kind=3
     ·have c7':=eq_true c7;rw[Wm c7]at el;rw[el]at e;rw[e];refine fon Tryz.func68 ?_;dsimp only[Tryz.f68];push_cast [hll,c1'];refine cl h84 ?_;push_cast;push_cast [hll,hla,hlx,c3']
      repeat refine an ?_
      refine cl h110 ?_;push_cast;refine cl hsk ?_;push_cast [c5'];refine cl hg ?_;push_cast [c5',c7'];exact dn (by push_cast [ze,zd,CLe,zh,Br,Av,Al,W8])
     ·have c7':=Wy c7;rw[Wj c7]at el;rw[el]at e;rw[e];refine fon Tryz.func68 ?_;dsimp only[Tryz.f68];push_cast [hll,c1'];refine cl h84 ?_;push_cast;push_cast [hll,hla,hlx,c3']
      repeat refine an ?_
      refine cl h110 ?_;push_cast;refine cl hsk ?_;push_cast [c5'];refine cl hg ?_;push_cast [c5',c7'];refine cl hdi ?_;push_cast;exact dn (by push_cast [ze,zd,CLe,zh,Al,Ab,Oj])
   ·have c5':=Wy c5;rw[Wj c5,Al,W8]at el;rw[el]at e;rw[e];refine fon Tryz.func68 ?_;dsimp only[Tryz.f68];push_cast [hll,c1'];refine cl h84 ?_;push_cast;push_cast [hll,hla,hlx,c3']
    repeat refine an ?_
    refine cl h110 ?_;push_cast;refine cl hsk ?_;push_cast [c5'];refine cl hg ?_;push_cast [c5'];refine cl hdi ?_;push_cast;exact dn (by push_cast [ze,zd,CLe,zh,Al,Ab,Oj])
  ·rw[Wj c4]at h110 el;rw[Al,W8,W8]at el;rw[el]at e;rw[e];refine fon Tryz.func68 ?_;dsimp only[Tryz.f68];push_cast [hll,c1'];refine cl h84 ?_;push_cast;push_cast [hll,hla,hlx,c3']
   repeat refine an ?_
   refine cl h110 ?_;push_cast;refine cl hdi ?_;push_cast;exact dn (by push_cast [ze,zd,CLe,zh,Al,Ab,Oj])
 ·have c3':=Wy c3;rw[Wj c3,W8,W8,W8]at el;rw[el]at e;rw[e];refine fon Tryz.func68 ?_;dsimp only[Tryz.f68];push_cast [hll,c1'];refine cl h84 ?_;push_cast;push_cast [hll,hla,hlx,c3']
  repeat refine an ?_
  refine cl hdi ?_;push_cast;exact dn (by push_cast [ze,zd,CLe,zh,Al,Ab,Oj])
end
section
open CA CB
open Go.RowKit
theorem zcx (f:FsV) (hf:FsI f) (hr:FsR f) (hs:FsS f) (hd:Gd f.xs) (b:Lz) (hb:b.length<=100000) (k:Int) (o:Lz) (ops:List Lz) (hn:ops.length<=1000) (hp:∀ x∈ops,x.length<=1000):Fun Tryz.prog G0 39 [.agg (fsC f),.str b,.agg (zpw k o ops)] (.tup [.sl 1 (zV ((JL f b k o ops).getD [])),.sc (.bool (JL f b k o ops).isSome)]) 0:=by
 have hll:(zV ops).length=ops.length:=We ..;have hin:=zkd f hf hr hs hd b hb k o ops hn hp;by_cases c1:ops.length=1
 ·have c1':=eq_true (show (ops.length:Int)=1 by omega);obtain ⟨p,rfl⟩:=List.length_eq_one_iff.1 c1;have e:JL f b k o [p]=some [ZP p]:=rfl;have hba:=zbB p (by have:=hp p Wk;omega);rw[e];refine fon Tryz.func39 ?_;dsimp only[Tryz.f39];push_cast [zV,Wq,WL,Wh,WG]
  repeat refine an ?_
  refine cl hba ?_;push_cast;exact dn (by push_cast [ze,zd,CLe,zh,WZ,AZ,zV,Wq,WL])
 have c1':=Wy (show ¬(ops.length:Int)=1 by omega);cases c2:zic f b k o ops with
 | true =>
  rw[c2]at hin;have e:JL f b k o ops=some (ops.dropLast.map fun p=>V6 (ops.getLastD []) (ZP p)):=by unfold JL;rw[if_neg c1,if_pos c2]
  have hn2:¬ops.length<2:=fun q=>by
   unfold zic at c2;rw[Wm q]at c2;cases c2
  have hlg:=US (ops:=ops) (by omega);have hla:(zV ops)[ops.length-1]?=some [.str (ops.getLastD [])]:=by rw[WA,hlg];rfl
  have hlx:((ops.length:Int)-1).toNat=ops.length-1:=by omega
  have hl2:(ops.getLastD []).length<=1000:=hp _ (Wg hlg);have hdl:ops.take (ops.length-1)=ops.dropLast:=List.dropLast_eq_take.symm;have hpd:∀ x∈ops.dropLast,x.length<=1000:=fun x hx=>hp x (List.dropLast_subset _ hx);have hdn:ops.dropLast.length=ops.length-1:=List.length_dropLast;clear hlg hp;rw[e];generalize ops.getLastD []=z at *;generalize ops.dropLast=dl at *;have hdll:(zV dl).length=dl.length:=We ..;have hdc:((ops.length:Int)-1)=(dl.length:Int):=by omega
  refine fof (fun i=>if i=9 then [false,false,false,false,false,false,false,false,false,false,false,true] else []) Tryz.func39 ?_;dsimp only[Tryz.f39];push_cast [hll,c1'];refine cl hin ?_;push_cast;push_cast [hll,hlx,hdl,hdll]
  repeat refine an ?_
  push_cast [hll,hlx,hdl,hdll];refine loop (fun i:Nat=>⟨[(5,.ptr 1 0),(8,.sc (.int .i64 (ops.length:Nat))),(9,.own 0 9 1 (zV ((dl.take i).map fun p=>V6 z (ZP p)))),(33,.sl 1 (zV dl)),(34,.sc (.int .i64 (dl.length:Nat))),(35,.sc (.int .i64 i))],[[.any,.any,.any,.any],zpw k o ops],1,0⟩) (fun i=>i<=dl.length) (fun i=>dl.length-i) 0 (Wb _) ?_ ?_
  ·exact wks [.inr (9,1)] (h4:=by push_cast [ze,zd,CLe,zh,OF,WL,zV,hdl])
  intro i hi;by_cases hlt:i<dl.length
  ·have hlt':=eq_true (show (i:Int)<dl.length by omega);have hgi:(zV dl)[i]?=some [.str dl[i]]:=by simp[zV,hlt]
   have hx:=hpd _ (Ww hlt);have ht:zV ((dl.take (i+1)).map fun p=>V6 z (ZP p))=zV ((dl.take i).map fun p=>V6 z (ZP p))++[[.str (V6 z (ZP dl[i]))]]:=by
    rw[Ai hlt,WS];exact WS
   generalize dl[i]=p at *;have hba:=zbB p (by omega);have hbl:=ud p;have hj:=zg9 z (ZP p) (by omega) (by omega);have htl:(zV ((dl.take i).map fun p=>V6 z (ZP p))).length=i:=by simp[zV];omega
   push_cast [hlt',hgi,hll,hla,hlx,On]
   repeat refine an ?_
   refine cl hba ?_;push_cast [hll,hla,hlx]
   repeat refine an ?_
   refine cl hj ?_;push_cast [htl]
   repeat refine an ?_
   exact ⟨i+1,by omega,by omega,wks [.inl 0] (h4:=by push_cast [ze,zd,CLe,zh,ht])⟩
  ·have hlt':=Wy (show ¬(i:Int)<dl.length by omega);have hil:i=dl.length:=by omega
   rw[hil]at hlt' ⊢;rw[Oi];push_cast [hlt'];exact dn (by push_cast [ze,zd,CLe,zh,WZ,AZ])
 | false =>
  rw[c2]at hin;by_cases c3:ops.length=2
  ·have c3':=eq_true (show (ops.length:Int)=2 by omega);have e:JL f b k o ops=some [ops.getLastD []]:=by unfold JL;rw[if_neg c1,if_neg (by rw[c2];decide),if_pos c3]
   have hlg:=US (ops:=ops) (by omega);have hla:(zV ops)[1]?=some [.str (ops.getLastD [])]:=by rw[WA,show (1:Nat)=ops.length-1 by omega,hlg];rfl
   rw[e];refine fon Tryz.func39 ?_;dsimp only[Tryz.f39];push_cast [hll,c1'];refine cl hin ?_;push_cast [hll,c3',hla]
   repeat refine an ?_
   exact dn (by push_cast [ze,zd,CLe,zh,WZ,AZ,zV,Wq,WL])
  ·have c3':=Wy (show ¬(ops.length:Int)=2 by omega);have e:JL f b k o ops=none:=by unfold JL;rw[if_neg c1,if_neg (by rw[c2];decide),if_neg c3]
   rw[e];refine fon Tryz.func39 ?_;dsimp only[Tryz.f39];push_cast [hll,c1'];refine cl hin ?_;push_cast [hll,c3'];exact dn (by push_cast [ze,zd,CLe,zh,Ot,Bz,zV,WL])
end
section
open CA CB
open Go.RowKit
theorem zcn (f:FsV) (hf:FsI f) (hs:FsS f) (d o:Int):Fun Tryz.prog G0 123 [.agg (fsC f),.sc (.int .i64 d),.sc (.int .i64 o)] (.sc (.bool (Ms f.xs f.xs.length d o))) 0:=by
 have hll:(zr f.xs).length=f.xs.length:=We ..;have hlen:=hs.len;refine fon Tryz.func123 ?_;dsimp only[Tryz.f123];push_cast;refine loop (fun p:Nat×Int=>⟨[(1,.sc (.int .i64 p.2)),(2,.sc (.int .i64 o)),(3,.ptr 0 0),(7,.sc (.bool false)),(12,.sc (.int .i64 (f.xs.length:Nat))),(13,.sc (.int .i64 p.1))],[fsC f],0,0⟩) (fun p=>p.1<=f.xs.length/\Ms f.xs f.xs.length d o=Ms f.xs (f.xs.length-p.1) p.2 o) (fun p=>f.xs.length-p.1) (0,d) ⟨Wb _,rfl⟩ ?_ ?_
 ·exact wk (h4:=by push_cast [ze,zd,CLe,zh,hll])
 rintro ⟨i,c⟩ ⟨h1,h2⟩;dsimp only at h1 h2;by_cases hi:i<f.xs.length
 ·have hi':=eq_true (show (i:Int)<f.xs.length by omega);have hg:=jn (G:=G0) f c (by omega) hf.rises;have e:Ms f.xs (f.xs.length-i) c o=if c=o then true else if c=1 then false else Ms f.xs (f.xs.length-(i+1)) (zf c f.xs).parent o:=by
   rw[show f.xs.length-i=(f.xs.length-(i+1))+1 by omega];rfl
  rw[e]at h2;by_cases c1:c=o
  ·have c1':=eq_true c1;rw[if_pos c1]at h2;rw[h2];push_cast [hi'];refine cl hg ?_;push_cast [c1'];exact dn
  ·have c1':=Wy c1;rw[if_neg c1]at h2;by_cases c2:c=1
   ·have c2':=eq_true c2;rw[if_pos c2]at h2;rw[h2];push_cast [hi'];refine cl hg ?_;push_cast [c1',c2'];exact dn
   ·have c2':=Wy c2;rw[if_neg c2]at h2;push_cast [hi'];refine cl hg ?_;push_cast [c1',c2']
    repeat refine an ?_
    exact ⟨(i+1,(zf c f.xs).parent),⟨by dsimp only;omega,h2⟩,by dsimp only;omega,wk⟩
 ·have hi':=Wy (show ¬(i:Int)<f.xs.length by omega);have e:Ms f.xs (f.xs.length-i) c o=false:=by rw[show f.xs.length-i=0 by omega];rfl
  rw[h2,e];push_cast [hi'];exact dn
abbrev zsp (a t:zB) (x y:zn) (th:Bool):List C:=[.sc (.int .i64 a.dir),.str a.name,.sc (.int .i64 a.ino),.sc (.int .i64 t.dir),.str t.name,.sc (.int .i64 t.ino),.sc (.int .i64 x.ino),.sc (.int .i64 x.kind),.sc (.int .i64 x.links),.str x.data,.sc (.int .i64 x.parent),.sl 2 (zJ x.es),.sc (.int .i64 y.ino),.sc (.int .i64 y.kind),.sc (.int .i64 y.links),.str y.data,.sc (.int .i64 y.parent),.sl 2 (zJ y.es),.sc (.bool th)]
abbrev znv:List C:=[.sc (.int .i64 0),.str [],.sc (.int .i64 0),.sc (.int .i64 0),.str [],.sc (.int .i64 0),.sc (.int .i64 0),.sc (.int .i64 0),.sc (.int .i64 0),.str [],.sc (.int .i64 0),.sc (.slice none 0 0),.sc (.int .i64 0),.sc (.int .i64 0),.sc (.int .i64 0),.str [],.sc (.int .i64 0),.sc (.slice none 0 0),.sc (.bool false)]
abbrev vO (e:List C) (d:zX) (k:Int) (o:Lz) (ops:List Lz) (u v:Lz):List C:=e++(zsV d++(zpw k o ops++[.str u,.str v]))
abbrev zfy (e:Int×Int) (ok:Bool):C:=.tup [.agg [.sc (.int .i64 e.1),.sc (.int .i64 e.2)],.sc (.bool ok)]
end
section
open CA CB
open Go.RowKit
theorem GrD.s (h:GrD N d) (hN:N<=9000):zaB d:=h.b.s hN
theorem zcG (h:GrD N d) (hN:N<=3000) (b:Lz) (hb:b.length<=100000) (k:Int) (o:Lz) (ops:List Lz) (u v:Lz) (hu:u.length<=3000) (hv:v.length<=3000) :
  YX Tryz.prog GD 72 [.ptr 0 0,.str b] [vO znv d k o ops u v] 0 (fun r bx' n=>n=0/\r=zfy ((mvS d.w.fs b u v).getD (0,0)) (mvS d.w.fs b u v).isNone/\bx' = [vO (match mvS d.w.fs b u v with | some _=>znv | none=>zsp (zR d.w.fs b u false).1 (zR d.w.fs b v false).1 (zf (zR d.w.fs b u false).1.ino d.w.fs.xs) (zf (zR d.w.fs b v false).1.ino d.w.fs.xs) (zl (zR d.w.fs b v false).1.ino d.w.fs.xs)) d k o ops u v]):=by
 have hs:=(h.s (by omega)).ws.fs;have hs1:=(Vr d.w.fs h.b.wi.fs h.r.fs hs h.dat b u false hb hu).g0 (G':=GD);have hs2:=(Vr d.w.fs h.b.wi.fs h.r.fs hs h.dat b v false hb hv).g0 (G':=GD);have hg1:=jn (G:=GD) d.w.fs (zR d.w.fs b u false).1.ino (by have:=hs.len;omega) h.b.wi.fs.rises;have hg2:=jn (G:=GD) d.w.fs (zR d.w.fs b v false).1.ino (by have:=hs.len;omega) h.b.wi.fs.rises;have e:mvS d.w.fs b u v=if (zR d.w.fs b u false).2≠0 then some (11,(zR d.w.fs b u false).2) else if zl (zR d.w.fs b u false).1.ino d.w.fs.xs=false then some (11,1) else if (zR d.w.fs b u false).1.name = [] then some (15,10)
  else if (zR d.w.fs b v false).2≠0 then some (15,(zR d.w.fs b v false).2) else if (zR d.w.fs b v false).1.name = [] then some (15,10) else none:=rfl
 generalize mvS d.w.fs b u v=M at *;generalize zR d.w.fs b u false=A at *;generalize zR d.w.fs b v false=T at *;generalize zf A.1.ino d.w.fs.xs=X at *;generalize zf T.1.ino d.w.fs.xs=Y at *;by_cases h1:A.2=0
 case neg =>
  have h1':=Wy h1;rw[if_pos h1]at e;subst e;simp only[WZ,Aa,Ot,O9];refine foX (fun i=>if i=2 then js 10 11 else if i=10 then js 10 11 else if i=15 then Qd [(0,.pure),(1,.pure),(2,.pure),(3,.pure),(4,.pure),(5,.pure),(6,.pure),(7,.pure),(8,.pure),(9,.flt [1,2,4,5]),(10,.pure),(11,.pure),(12,.pure),(13,.flt [2,5]),(14,.pure),(15,.pure),(16,.pure),(17,.flt [])] else []) Tryz.func72 ?_;dsimp only[Tryz.f72];push_cast;refine cl hs1 ?_;push_cast [h1'];refine cl hg1 ?_;push_cast [h1'];exact ⟨_,[_],0,⟨⟨rfl,rfl,rfl⟩,Wc _⟩,[],rfl,rfl,by push_cast [ze,zd,CLe,zh],by push_cast [ze,zd,CLe,zh]⟩
 have h1':=eq_true h1;rw[if_neg (fun q=>q h1)]at e;cases h2:zl A.1.ino d.w.fs.xs with
 | false =>
  rw[h2]at hg1 e;rw[if_pos rfl]at e;subst e;simp only[WZ,Aa,Ot,O9];refine foX (fun i=>if i=2 then js 10 11 else if i=10 then js 10 11 else if i=15 then Qd [(0,.pure),(1,.pure),(2,.pure),(3,.pure),(4,.pure),(5,.pure),(6,.pure),(7,.pure),(8,.pure),(9,.flt [1,2,4,5]),(10,.pure),(11,.pure),(12,.pure),(13,.flt [2,5]),(14,.pure),(15,.pure),(16,.pure),(17,.flt [])] else []) Tryz.func72 ?_;dsimp only[Tryz.f72];push_cast;refine cl hs1 ?_;push_cast [h1'];refine cl hg1 ?_;push_cast [h1'];exact ⟨_,[_],0,⟨⟨rfl,rfl,rfl⟩,Wc _⟩,[],rfl,rfl,by push_cast [ze,zd,CLe,zh],by push_cast [ze,zd,CLe,zh]⟩
 | true =>
  rw[h2]at hg1 e;rw[if_neg (by decide)]at e;by_cases h3:A.1.name = []
  ·have h3':=eq_true h3;rw[if_pos h3]at e;subst e;simp only[WZ,Aa,Ot,O9];refine foX (fun i=>if i=2 then js 10 11 else if i=10 then js 10 11 else if i=15 then Qd [(0,.pure),(1,.pure),(2,.pure),(3,.pure),(4,.pure),(5,.pure),(6,.pure),(7,.pure),(8,.pure),(9,.flt [1,2,4,5]),(10,.pure),(11,.pure),(12,.pure),(13,.flt [2,5]),(14,.pure),(15,.pure),(16,.pure),(17,.flt [])] else []) Tryz.func72 ?_;dsimp only[Tryz.f72];push_cast;refine cl hs1 ?_;push_cast [h1'];refine cl hg1 ?_;push_cast [h1',h3'];exact ⟨_,[_],0,⟨⟨rfl,rfl,rfl⟩,Wc _⟩,[],rfl,rfl,by push_cast [ze,zd,CLe,zh],by push_cast [ze,zd,CLe,zh]⟩
  have h3':=Wy h3;rw[if_neg h3]at e;by_cases h4:T.2=0
  case neg =>
   have h4':=Wy h4;rw[if_pos h4]at e;subst e;simp only[WZ,Aa,Ot,O9];refine foX (fun i=>if i=2 then js 10 11 else if i=10 then js 10 11 else if i=15 then Qd [(0,.pure),(1,.pure),(2,.pure),(3,.pure),(4,.pure),(5,.pure),(6,.pure),(7,.pure),(8,.pure),(9,.flt [1,2,4,5]),(10,.pure),(11,.pure),(12,.pure),(13,.flt [2,5]),(14,.pure),(15,.pure),(16,.pure),(17,.flt [])] else []) Tryz.func72 ?_;dsimp only[Tryz.f72];push_cast;refine cl hs1 ?_;push_cast [h1'];refine cl hg1 ?_;push_cast [h1',h3'];refine cl hs2 ?_;push_cast [h4'];exact ⟨_,[_],0,⟨⟨rfl,rfl,rfl⟩,Wc _⟩,[],rfl,rfl,by push_cast [ze,zd,CLe,zh],by push_cast [ze,zd,CLe,zh]⟩
  have h4':=eq_true h4;rw[if_neg (fun q=>q h4)]at e;by_cases h5:T.1.name = []
  ·have h5':=eq_true h5;rw[if_pos h5]at e;subst e;simp only[WZ,Aa,Ot,O9];refine foX (fun i=>if i=2 then js 10 11 else if i=10 then js 10 11 else if i=15 then Qd [(0,.pure),(1,.pure),(2,.pure),(3,.pure),(4,.pure),(5,.pure),(6,.pure),(7,.pure),(8,.pure),(9,.flt [1,2,4,5]),(10,.pure),(11,.pure),(12,.pure),(13,.flt [2,5]),(14,.pure),(15,.pure),(16,.pure),(17,.flt [])] else []) Tryz.func72 ?_;dsimp only[Tryz.f72];push_cast;refine cl hs1 ?_;push_cast [h1'];refine cl hg1 ?_;push_cast [h1',h3'];refine cl hs2 ?_;push_cast [h4',h5'];exact ⟨_,[_],0,⟨⟨rfl,rfl,rfl⟩,Wc _⟩,[],rfl,rfl,by push_cast [ze,zd,CLe,zh],by push_cast [ze,zd,CLe,zh]⟩
  have h5':=Wy h5;rw[if_neg h5]at e;subst e;simp only[WZ,Aa,Ot,O9];refine foX (fun i=>if i=2 then js 10 11 else if i=10 then js 10 11 else if i=15 then Qd [(0,.pure),(1,.pure),(2,.pure),(3,.pure),(4,.pure),(5,.pure),(6,.pure),(7,.pure),(8,.pure),(9,.flt [1,2,4,5]),(10,.pure),(11,.pure),(12,.pure),(13,.flt [2,5]),(14,.pure),(15,.pure),(16,.pure),(17,.flt [])] else []) Tryz.func72 ?_;dsimp only[Tryz.f72];push_cast;refine cl hs1 ?_;push_cast [h1'];refine cl hg1 ?_;push_cast [h1',h3'];refine cl hs2 ?_;push_cast [h4',h5'];refine cl hg2 ?_;push_cast;exact ⟨_,[_],0,⟨⟨rfl,rfl,rfl⟩,Wc _⟩,[],rfl,rfl,by push_cast [ze,zd,CLe,zh],by push_cast [ze,zd,CLe,zh]⟩
end
section
open CA CB
open Go.RowKit
def zpv (o:OpV):OpV:=if o.kind=6 then ⟨6,0,o.b,o.a,[]⟩ else ⟨9,o.slot,o.a,[],[]⟩
structure zrC (u:qj) (o:OpV) (v:qj):Prop where
 fwd:Fun Tryz.prog G0 46 [jP u,.agg (opL o)] (.tup [jP v,.sc (.int .i64 0)]) 0
 bwd:Fun Tryz.prog G0 46 [jP v,.agg (opL (zpv o))] (.tup [jP u,.sc (.int .i64 0)]) 0
 kind:o.kind=6∨o.kind=7
 short:short o
def Ql (w:qj) (l:List OpV) (v:qj):Prop:=∃ f:Nat->qj,f 0=w/\f l.length=v/\∀ i (h:i<l.length),zrC (f i) l[i] (f (i+1))
theorem Ql.nil:Ql w [] w:=⟨fun _=>w,rfl,rfl,fun i h=>absurd h (Oo _)⟩
theorem Ql.snoc {u v:qj} {l:List OpV} {o:OpV} (h:Ql w l u) (hs:zrC u o v):Ql w (l++[o]) v:=by
 obtain ⟨f,f0,f1,f2⟩:=h;refine ⟨fun i=>if i<=l.length then f i else v,by simp only;rw[if_pos (Wb _)];exact f0,by simp only;rw[Wn,Om,if_neg (by omega)],fun i hi=>?_⟩;rw[Wn,Om]at hi;simp only;rcases Wr i l.length with q | q
 ·rw[if_pos (by omega),if_pos (by omega),List.getElem_append_left q];exact f2 i q
 ·have:i=l.length:=by omega
  subst this;rw[if_pos (Wc _),if_neg (by omega),List.getElem_append_right (Wc _),f1];simp only[BU,List.getElem_cons_zero];exact hs
theorem zaW {f:FsV} (hi:FsI f) {p:Lz} {s:zB} (h:zm f s) (e:atV f p=(s,0)):isV f p true=(s,zf s.ino f.xs,0):=by
 unfold isV;simp[e,zm.ino hi h]
theorem zhO {f:FsV} (hi:FsI f) {p:Lz} {s:zB} (h0:s.ino=0) (e:atV f p=(s,0)):isV f p false=(s,zf s.ino f.xs,0):=by
 have z0:zl s.ino f.xs=false:=by
  cases hq:zl s.ino f.xs with
  | false=>rfl
  | true=>exact absurd h0 (XY hi hq)
 unfold isV;simp[e,z0]
theorem zfk (w:qj) (hw:Zm w) (hs:v6 w) {a b:Lz} (ho:short (JT a b)) (hm:Y6 (JT a b)=true) {s t:zB} (ts:zm w.fs s) (ft:qX w.fs t) (t0:t.ino=0) (ia:atV w.fs a=(s,0)) (ib:atV w.fs b=(t,0)) :
  Fun Tryz.prog G0 46 [jP w,.agg (opL (JT a b))] (.tup [jP { w with fs:=qn w.fs s t },.sc (.int .i64 0)]) 0:=by
 have hop:=U0 6 0 a b [] ho;have hm:Y6 ⟨6,0,a,b,[]⟩=true:=hm;rw[hm]at hop;have h1:=N5 w.fs hw.fs hs.fs a ho.1 true;have h2:=N5 w.fs hw.fs hs.fs b ho.2.1 false;rw[if_pos rfl,zaW hw.fs ts ia]at h1;rw[if_neg (by decide),zhO hw.fs t0 ib]at h2;have hn:=zhN w.fs hw.fs hs.fs s t ts ft t0;unfold qJ opL at hop;show Fun Tryz.prog G0 46 [jP w,.agg [.sc (.int .i64 6),.sc (.int .i64 0),.str a,.str b,.str []]] _ 0;refine fon Tryz.func46 ?_;dsimp only[Tryz.f46];push_cast;refine cl hop ?_;push_cast;refine cl h1 ?_;push_cast;refine cl h2 ?_;push_cast;refine cl hn ?_;push_cast;exact dn
theorem zm9 (w:qj) (hw:Zm w) (hs:v6 w) {a:Lz} {n:Int} (ho:short ⟨7,n,a,[],[]⟩) (hm:Y6 ⟨7,n,a,[],[]⟩=true) {s:zB} (ts:zm w.fs s) (he:(zf s.ino w.fs.xs).es = []) (hn:Vd n w.kept=false) (ia:atV w.fs a=(s,0)) :
  Fun Tryz.prog G0 46 [jP w,.agg (opL ⟨7,n,a,[],[]⟩)] (.tup [jP (qL w n s).1,.sc (.int .i64 0)]) 0:=by
 have hop:=U0 7 n a [] [] ho;rw[hm]at hop;have h1:=N5 w.fs hw.fs hs.fs a ho.1 true;rw[if_pos rfl,zaW hw.fs ts ia]at h1;have hk:=zg5 w hw hs.fs (by have:=hs.kept;omega) (by have:=hs.pool;omega) n s ts;have k0:(qL w n s).2=0:=by unfold qL;rw[hn];rfl
 rw[k0]at hk;have hel:(0<(zJ (zf s.ino w.fs.xs).es).length)=False:=Wy (by rw[he];simp);unfold qJ opL at hop;show Fun Tryz.prog G0 46 [jP w,.agg [.sc (.int .i64 7),.sc (.int .i64 n),.str a,.str [],.str []]] _ 0;refine fon Tryz.func46 ?_;dsimp only[Tryz.f46];push_cast;refine cl hop ?_;push_cast;refine cl h1 ?_;push_cast [hel];refine cl hk ?_;push_cast;exact dn
theorem znm (v:qj) (hw:FsI v.fs) (hs:v6 v) {a:Lz} {n:Int} (ho:short ⟨9,n,a,[],[]⟩) (hm:Y6 ⟨9,n,a,[],[]⟩=true) {s:zB} (t0:s.ino=0) (ia:atV v.fs a=(s,0)) (w:qj)
  (hg:Fun Tryz.prog G0 92 [jP v,.sc (.int .i64 n),.agg (Ye s)] (.tup [jP w,.sc (.int .i64 0)]) 0) :
  Fun Tryz.prog G0 46 [jP v,.agg (opL ⟨9,n,a,[],[]⟩)] (.tup [jP w,.sc (.int .i64 0)]) 0:=by
 have hop:=U0 9 n a [] [] ho;rw[hm]at hop;have h1:=N5 v.fs hw hs.fs a ho.1 false;rw[if_neg (by decide),zhO hw t0 ia]at h1;unfold qJ opL at hop;show Fun Tryz.prog G0 46 [jP v,.agg [.sc (.int .i64 9),.sc (.int .i64 n),.str a,.str [],.str []]] _ 0;refine fon Tryz.func46 ?_;dsimp only[Tryz.f46];push_cast;refine cl hop ?_;push_cast;refine cl h1 ?_;push_cast;refine cl hg ?_;push_cast;exact dn
structure zcB (d:zX):Prop where
 may:∀ o∈d.ops,Y6 o=true/\o.kind<=7
 rise:(Ja d.ops).Pairwise (· < ·)
 over:∀ s∈Ja d.ops,s<=d.slot
theorem zcB.plan (h:zcB d):Qj d.ops=true:=by
 unfold Qj;rw[Wp,OQ,W5,zaR];refine ⟨fun o ho=>?_,fun j hj=>?_⟩
 ·obtain ⟨q1,q2⟩:=h.may o ho;unfold QM;rw[q1,Wj (by omega)];simp
 ·have:=WR.1 h.rise j (j+1) (by omega) hj (by omega);unfold zpC;rw[if_neg (by omega),if_pos this]
theorem zcB.add {e:zX} {o:OpV} (h:zcB d) (he:e.ops=d.ops++[o]) (hm:Y6 o=true) (hk:o.kind<=7) (hs:d.slot<=e.slot) (hn:qR o.kind=true->d.slot<o.slot/\o.slot<=e.slot):zcB e:=by
  have hsl:Ja e.ops=Ja d.ops++if qR o.kind then [o.slot] else []:=by
    rw[he];unfold Ja;rw[Oz,WS];by_cases q:qR o.kind=true
    · rw[if_pos q,Og (p:=fun o:OpV=>qR o.kind) q];rfl
    · rw[if_neg q,OH (p:=fun o:OpV=>qR o.kind) q];rfl
  refine ⟨fun x hx=>?_,?_,?_⟩
  · rw[he]at hx;rcases WC.1 hx with hx | hx
    · exact h.may x hx
    · rw[W0.1 hx];exact ⟨hm,hk⟩
  all_goals
    rw[hsl];by_cases q:qR o.kind=true
    · have:=hn q;rw[if_pos q]
      first
      | (rw[AP];exact ⟨h.rise,by simp,fun a ha b hb=>by rw[W0.1 hb];have:=h.over a ha;omega⟩)
      | (intro x hx
         rcases WC.1 hx with hx | hx
         · have:=h.over x hx;omega
         · rw[W0.1 hx];omega)
    · rw[if_neg q,W2]
      first
      | exact h.rise
      | exact fun x hx=>Int.le_trans (h.over x hx) hs
structure MvU (w:qj) (K:Nat) (d:zX):Prop where
 chain:Ql w d.ops d.w
 kept:VT w d.w
 len:d.w.fs.xs.length<=w.fs.xs.length
 ops:d.ops.length<=K
 plan:zcB d
theorem zfR {u:qj} (hi:FsI u.fs) {a b:zB} (ha:zm u.fs a) (hb:qX u.fs b) (h:VT w u):VT w { u with fs:=qn u.fs a b }:=fun x hx hk=>by
 rcases h x hx hk with ⟨y,hy,q1,q2⟩ | q
 ·have hh:zl y.ino (qn u.fs a b).xs=true:=by rw[(JE hi ha hb y.ino).1];exact Ji hy
  have g:=zj hh;have e:=zgY hi ha hb y.ino;rw[JF hi hy]at e;exact .inl ⟨_,g.2.1,by rw[e];exact q1,by rw[e];exact q2⟩
 ·exact .inr q
theorem zdj {u:qj} (hi:Zm u) {s:zB} (hs:zm u.fs s) {n:Int} (hn:Vd n u.kept=false) (h:VT w u):VT w (qL u n s).1:=fun x hx hk=>by
 have ek:(qL u n s).1=⟨zk u.fs s,qw ⟨n,s.ino,false,[]⟩ u.kept,if (zf s.ino u.fs.xs).links=1 then qd { zf s.ino u.fs.xs with links:=0,parent:=0 } u.pool else u.pool⟩:=by unfold qL;rw[hn];rfl
 rw[ek];have hh:=zm.ino hi.fs hs;have gi:=zj hh;rcases h x hx hk with ⟨y,hy,q1,q2⟩ | ⟨y,hy,q1,q2⟩
 ·have hyk:y.kind≠2:=by rw[q1];exact hk
  have hyd:y.ino≠s.dir:=fun q=>by
   have:=JF hi.fs hy;rw[q]at this;rw[←this]at hyk;exact hyk hs.kind
  have hin:y∈qe s.dir (zg s.name) u.fs.xs:=(qD hs.has).2 (.inr ⟨hy,hyd⟩);by_cases hyi:y.ino=s.ino
  ·have hyg:zf s.ino u.fs.xs=y:=by rw[←hyi];exact JF hi.fs hy
   by_cases hl:(zf s.ino u.fs.xs).links=1
   ·refine .inr ⟨{ zf s.ino u.fs.xs with links:=0,parent:=0 },?_,?_⟩
    ·show _∈(if (zf s.ino u.fs.xs).links=1 then _ else _);rw[if_pos hl];exact qo.2 (.inl rfl)
    ·rw[hyg];exact ⟨q1,q2⟩
   ·refine .inl ⟨{ zf s.ino u.fs.xs with links:=(zf s.ino u.fs.xs).links-1 },?_,?_⟩
    ·show _∈(zk u.fs s).xs;unfold zk;rw[if_neg (by omega)];exact qo.2 (.inl rfl)
    ·rw[hyg];exact ⟨q1,q2⟩
  ·refine .inl ⟨y,?_,q1,q2⟩;show y∈(zk u.fs s).xs;unfold zk;split
   ·exact J3.2 ⟨hin,hyi⟩
   ·exact qo.2 (.inr ⟨hin,by show y.ino≠(zf s.ino u.fs.xs).ino;rw[gi.2.2];exact hyi⟩)
 ·refine .inr ⟨y,?_,q1,q2⟩;show y∈(if (zf s.ino u.fs.xs).links=1 then _ else _);split
  ·refine qo.2 (.inr ⟨hy,fun q=>?_⟩);have q:y.ino=(zf s.ino u.fs.xs).ino:=q;rw[gi.2.2]at q;have:=(hi.apart y hy).1;rw[q,hh]at this;cases this
  ·exact hy
theorem MvU.stash (h:MvC N d) (hN:N<=2900) (hu:MvU w K d) {s:zB} (hs:zm d.w.fs s) (he:(zf s.ino d.w.fs.xs).es = []) {p:Lz} (hp:z8 p=true) (ha:atV d.w.fs p=(s,0)) (hl:p.length<=1000000) (hb:atV (zk d.w.fs s) p=(⟨s.dir,s.name,0⟩,0)) :
  MvU w (K+1) (Qe d (Ga p)).1:=by
 obtain ⟨hns,hm,ea⟩:=xq h (by omega) hs he hp ha;have hi:=h.g.b.wi;have hS:=h.g.s (by omega);have hgS:=((U9 h (by omega) hs he hp ha).2.1.g.s (by omega)).ws;have hgI:=(U9 h (by omega) hs he hp ha).2.1.g.b.wi;rw[ea]at hgS hgI ⊢;have hgS:v6 (qL d.w (d.slot+1) s).1:=hgS;have hgI:Zm (qL d.w (d.slot+1) s).1:=hgI;have gb:=zgE hi h.g.r hs he hns;have efs:(qL d.w (d.slot+1) s).1.fs=zk d.w.fs s:=by unfold qL;rw[hns];rfl
 have dne:s.dir≠s.ino:=fun e=>by
  have:=(zK hs.there).2;rw[e,he]at this;cases this
 have hx:=zj (zm.ino hi.fs hs);have hma:=Qw h.g.r.fs hs;have hsh:short ⟨7,d.slot+1,p,[],[]⟩:=⟨hl,Wb _,Wb _⟩;have hm9:Y6 ⟨9,d.slot+1,p,[],[]⟩=true:=by
  unfold Y6 at hm ⊢;exact hm
 have hdir:zl s.dir (zk d.w.fs s).xs=true:=by
  have:=(xi hi.fs hs he).1.has;exact this
 refine ⟨hu.chain.snoc ⟨zm9 d.w hi hS.ws hsh hm hs he hns ha,?_,.inr rfl,hsh⟩,zdj hi hs hns hu.kept,?_,?_,hu.plan.add rfl hm (by show (7:Int)<=7;decide) (by show d.slot<=d.slot+1;omega) fun _=>⟨by show d.slot<d.slot+1;omega,O0 _⟩⟩
 ·show Fun Tryz.prog G0 46 [jP (qL d.w (d.slot+1) s).1,.agg (opL ⟨9,d.slot+1,p,[],[]⟩)] _ 0;refine znm _ hgI.fs hgS ⟨hl,Wb _,Wb _⟩ hm9 (s:=⟨s.dir,s.name,0⟩) rfl (by rw[efs];exact hb) d.w ?_;refine zg6 _ hgI.fs.rises hgS _ _ _ _ gb (by rw[efs];exact hdir) (by rw[hx.2.2];exact dne) hma (by have:=kZ hma;show s.name.length<=_;omega) (fun q=>Mj hgI.fs hgS.fs q) ?_;cases hq:zl (zf s.ino d.w.fs.xs).ino (qL d.w (d.slot+1) s).1.pool with
  | false=>rw[(JI hq).2];exact Wb _
  | true =>
   have:=((U9 h (by omega) hs he hp ha).2.1.g.b.wb.pnode);rw[ea]at this;have:=(this _ (zj hq).2.1).2.1;omega
 ·show (qL d.w (d.slot+1) s).1.fs.xs.length<=_;rw[efs];exact WJ (GG hi.fs hs) hu.len
 ·show (d.ops++[_]).length<=_;rw[Wn,Om];have:=hu.ops;omega
theorem MvU.move (h:MvC N d) (hN:N<=2900) (hu:MvU w K d) {a t:zB} {p q:Lz} (hp:z8 p=true) (hq:z8 q=true) (hap:atV d.w.fs p=(a,0)) (htq:atV d.w.fs q=(t,0)) (ha:zm d.w.fs a) (ht:qX d.w.fs t) (t0:t.ino=0) (u1:Jf p q=false) (u2:Jf q p=false) (lp:p.length<=1000000) (lq:q.length<=1000000) :
  MvC (N+1) (Qe d (JT p q)).1/\MvU w (K+1) (Qe d (JT p q)).1:=by
 have hi:=h.g.b.wi;have hS:=h.g.s (by omega);have z0:zl t.ino d.w.fs.xs=false:=by
  cases hq:zl t.ino d.w.fs.xs with
  | false=>rfl
  | true=>exact absurd t0 (XY hi.fs hq)
 have ea:=zjT d hp hq hap htq (zm.ino hi.fs ha) z0 u1 u2;have hG:=(h.g.add (o:=JT p q) (Wb _) (show ¬(6:Int)=3 by decide));have hgS:=(hG.s (by omega)).ws;have hgI:=hG.b.wi;obtain ⟨⟨k1,k2⟩,_⟩:=zjz hi.fs h.g.r.fs ha ht hp hq hap htq u2;obtain ⟨b1,b2,b3⟩:=zgs hi.fs h.g.r.fs ha ht;have hmy:Y6 (JT p q)=true/\Y6 (JT q p)=true:=by
  unfold Y6 JT;have e1:qR 6=false:=rfl;have e2:zoD 6=true:=rfl;simp only[hp,hq,e1,e2,u1,u2];exact ⟨rfl,rfl⟩
 rw[ea]at hG hgS hgI ⊢;refine ⟨⟨hG,h.kept,by have:=h.sl;show d.slot<=_;omega,h.stat⟩,?_⟩;have hgS:v6 { d.w with fs:=qn d.w.fs a t }:=hgS;have hgI:Zm { d.w with fs:=qn d.w.fs a t }:=hgI;refine ⟨hu.chain.snoc ⟨zfk d.w hi hS.ws ⟨lp,lq,Wb _⟩ hmy.1 ha ht t0 hap htq,?_,.inl rfl,⟨lp,lq,Wb _⟩⟩,zfR hi.fs ha ht hu.kept,?_,?_,hu.plan.add rfl hmy.1 (by show (6:Int)<=7;decide) (O0 _) fun q=>by cases q⟩
 ·have:=zfk { d.w with fs:=qn d.w.fs a t } hgI hgS ⟨lq,lp,Wb _⟩ hmy.2 b1 b2 rfl k2 k1;have e3:({ d.w with fs:=qn (qn d.w.fs a t) ⟨t.dir,t.name,a.ino⟩ ⟨a.dir,a.name,0⟩ }:qj)=d.w:=by rw[b3]
  have e4:({ ({ d.w with fs:=qn d.w.fs a t }:qj) with fs:=qn (qn d.w.fs a t) ⟨t.dir,t.name,a.ino⟩ ⟨a.dir,a.name,0⟩ }:qj)=d.w:=e3;rw[e4]at this;exact this
 ·show (qn d.w.fs a t).xs.length<=_;rw[zst hi.fs ha ht];exact hu.len
 ·show (d.ops++[_]).length<=_;rw[Wn,Om];have:=hu.ops;omega
theorem MvU.mono {L:Nat} (h:MvU w K d) (hl:K<=L):MvU w L d:=⟨h.chain,h.kept,h.len,WJ h.ops hl,h.plan⟩
theorem MvU.tell (h:MvU w K d) (x:Lz):MvU w K (YJ d x):=⟨h.chain,h.kept,h.len,h.ops,⟨h.plan.may,h.plan.rise,h.plan.over⟩⟩
theorem zrX (h:MvC N d) (hN:N<=2800) (hu:MvU w K d) {o v:Lz} {a t:zB} (ha:zm d.w.fs a) (hg:zfX d.w.fs t) (hn:t.name≠[]) (hj:(mvJ d.w.fs o a t v).2=true):MvC (N+2) (zl4 d a t)/\MvU w (K+2) (zl4 d a t):=by
 have hi:=h.g.b.wi.fs;have hr:=h.g.r.fs;have hok:=h.g.ok (by omega);obtain ⟨j1,j2,j3⟩:=zmA hj;have ma:=Qw hr ha;obtain ⟨nA,vA,a2,lA⟩:=Mf hok ha.has ha.kind;have eA:qp d.w.fs a=qC (nA++[a.name]):=by unfold qp;rw[a2,WZ,QX nA _ fun y hy=>(JW (vA y hy)).1]
 have gT:zl t.dir d.w.fs.xs=true/\(zf t.dir d.w.fs.xs).kind=2/\t.ino=zT t.name (zf t.dir d.w.fs.xs).es:=hg.resolve_left hn;obtain ⟨nT,vT,t2,lT⟩:=Mf hok gT.1 gT.2.1;have eT:qp d.w.fs t=qC (nT++[t.name]):=by unfold qp;rw[t2,WZ,QX nT _ fun y hy=>(JW (vT y hy)).1]
 have hai:=zm.ino hi ha;have pA:=VD hok ha.has ha.kind ma;unfold zl4;cases hth:zl t.ino d.w.fs.xs with
 | true =>
  obtain ⟨k1,k2,_⟩:=j1 hth;have htT:=Q0 hg hi hth hn;have mt:=Qw hr htT;have pT:=VD hok gT.1 gT.2.1 mt;have hu2:=za9 hok hi hr ha lA lT gT.1 gT.2.1 (fun x hx=>by
   have:=gT.2.2;unfold zT at this;rw[hx]at this;have this:t.ino=x:=this;rw[←this];exact ⟨fun q=>k1 q.symm,k2⟩) j3 vA vT ma mt
  rw[←eA,←eT]at hu2;obtain ⟨q1,q2⟩:=Vu hok gT.1 gT.2.1 mt;have e0:(⟨t.dir,t.name,zT t.name (zf t.dir d.w.fs.xs).es⟩:zB)=t:=by rw[←gT.2.2]
  rw[e0]at q2;obtain ⟨s1,s2,s3⟩:=U9 h (by omega) htT k2 q1 q2;obtain ⟨ha1,hn1⟩:=zc1 hi htT k2 ha k1;obtain ⟨hf1,hn2⟩:=xi hi htT k2;have lA1:=MH hi htT k2 lA hn1;have lT1:=MH hi htT k2 lT hn2;rw[if_pos rfl];have ui:FsI (zk d.w.fs t):=by rw[←s1];exact s2.g.b.wi.fs
  obtain ⟨_,pA1⟩:=Ho ui lA1 ha1.has ha1.kind vA ma;obtain ⟨_,pT1⟩:=Ho ui lT1 hf1.has hf1.kind vT mt;have x1:zT a.name (zf a.dir (zk d.w.fs t).xs).es=a.ino:=by unfold zT;rw[ha1.there]
  have x2:zT t.name (zf t.dir (zk d.w.fs t).xs).es=0:=by
   have:=hf1.free;unfold Yj at this;rw[qg]at this;unfold zT;cases hq:qz zN.name t.name (zf t.dir (zk d.w.fs t).xs).es with
   | none=>rfl
   | some e=>rw[hq]at this;cases this
  rw[x1,←eA]at pA1;rw[x2,←eT]at pT1;have hu1:=hu.stash h (by omega) htT k2 q1 q2 (by omega) pT1;have hp:=(Vu hok ha.has ha.kind ma).1;generalize (Qe d (Ga (qp d.w.fs t))).1=d1 at *;rw[←s1]at ha1 hf1 pA1 pT1;exact hu1.move s2 (by omega) hp q1 pA1 pT1 ha1 hf1 rfl hu2.1 hu2.2 (by omega) (by omega)
 | false =>
  obtain ⟨mt,_⟩:=j2 hth;have h0:t.ino=0:=by
   rcases Classical.em (t.ino=0) with q | q
   ·exact q
   ·have hx:Yj t.name (zf t.dir d.w.fs.xs).es=true:=by
     unfold Yj;rw[qg];cases hq:qz zN.name t.name (zf t.dir d.w.fs.xs).es with
     | some e=>rfl
     | none=>have:=gT.2.2;unfold zT at this;rw[hq]at this;exact absurd this q
    have:=ZF hi gT.1 hx;rw[←gT.2.2,hth]at this;cases this
  have hfr:=zhb hi hg h0 mt;have pT:=VD hok gT.1 gT.2.1 mt;have hu2:=za9 hok hi hr ha lA lT gT.1 gT.2.1 (fun x hx=>by
   have:=hfr.free;unfold Yj at this;rw[qg,hx]at this;cases this) j3 vA vT ma mt
  rw[←eA,←eT]at hu2;obtain ⟨q1,q2⟩:=Vu hok gT.1 gT.2.1 mt;have e0:(⟨t.dir,t.name,zT t.name (zf t.dir d.w.fs.xs).es⟩:zB)=t:=by rw[←gT.2.2]
  rw[e0]at q2;obtain ⟨p1,p2⟩:=Vu hok ha.has ha.kind ma;have x1:zT a.name (zf a.dir d.w.fs.xs).es=a.ino:=by unfold zT;rw[ha.there]
  rw[x1]at p2;have p2:atV d.w.fs (qp d.w.fs a)=(a,0):=p2;rw[if_neg (by simp)];obtain ⟨x1,x2⟩:=hu.move h (by omega) p1 q1 p2 q2 ha hfr h0 hu2.1 hu2.2 (by omega) (by omega);exact ⟨x1.mono (by omega),x2.mono (by omega)⟩
theorem zmN (h:MvC N d) (hN:N<=2800) (hu:MvU w K d) (b o u v:Lz):MvC (N+2) (Z6 b o d u v)/\MvU w (K+2) (Z6 b o d u v):=by
 unfold Z6;cases hs:mvS d.w.fs b u v with
 | some e=>exact ⟨(h.tell _).mono (by omega),(hu.tell _).mono (by omega)⟩
 | none =>
  simp only;obtain ⟨s1,s2,s3,s4,s5⟩:=zmm hs;have ha:=Q0 (Vj s1) h.g.b.wi.fs s2 s3;split
  ·rename_i hj;exact zrX h hN hu ha (Vj s4) s5 hj
  ·split
   ·exact ⟨h.mono (by omega),hu.mono (by omega)⟩
   ·exact ⟨(h.tell _).mono (by omega),(hu.tell _).mono (by omega)⟩
theorem zmp {w:qj} {b o:Lz}:∀ (l:List (Lz×Lz)) {N K:Nat} {d:zX},MvC N d->MvU w K d->N+2*l.length<=2800->MvC (N+2*l.length) (zj9 b o l d)/\MvU w (K+2*l.length) (zj9 b o l d)
 | [],N,K,d,h,hu,_=>⟨h,hu⟩
 | p :: r,N,K,d,h,hu,hN=>by
  rw[Wh]at hN ⊢;obtain ⟨x1,x2⟩:=zmN h (by omega) hu b o p.1 p.2;have:=zmp (b:=b) (o:=o) r x1 x2 (by omega);rw[show N+2*(r.length+1)=N+2+2*r.length by omega,show K+2*(r.length+1)=K+2+2*r.length by omega];exact this
end
section
open CA CB
open Go.RowKit
def H8 (x y:zn):(Int×Int)×Bool:=if x.kind=2/\y.kind≠2 then ((12,0),false) else if x.kind≠2/\y.kind=2 then ((13,0),false) else ((15,5),decide (y.es = []))
theorem zlj (a t:zB) (x y:zn) (th:Bool) (d:zX) (k:Int) (o:Lz) (ops:List Lz) (u v:Lz) (hy:y.es.length<=100000):Mw Tryz.prog GD 124 [.ptr 0 0] [vO (zsp a t x y th) d k o ops u v] 0 (zfy (H8 x y).1 (H8 x y).2) [vO (zsp a t x y th) d k o ops u v] 0:=by
 have hel:(zJ y.es).length=y.es.length:=We ..;by_cases c1:x.kind=2<;>by_cases c2:y.kind=2
 ·have c1':=eq_true c1;have c2':=eq_true c2;have e:H8 x y=((15,5),decide (y.es = [])):=by unfold H8;rw[if_neg (fun q=>q.2 c2),if_neg (fun q=>q.1 c1)]
  rw[e];by_cases c3:y.es = []
  ·have c3':((y.es.length:Int)=0)=True:=eq_true (by rw[c3];rfl);rw[Wm c3];refine foB (fun i=>if i=1 then js 15 16 else if i=6 then Qd [(0,.pure),(1,.pure),(2,.pure),(3,.pure),(4,.pure),(5,.pure),(6,.pure),(7,.pure),(8,.pure),(9,.flt [1,2,3,4,5,6,7,8]),(10,.pure)] else []) Tryz.func124 ?_;dsimp only[Tryz.f124];push_cast [c1',c2',hel,c3'];exact ⟨[],rfl,rfl,by push_cast [ze,zd,CLe,zh],by push_cast [ze,zd,CLe,zh]⟩
  ·have c3':((y.es.length:Int)=0)=False:=Wy (by have:=WI.2 c3;omega);rw[Wj c3];refine foB (fun i=>if i=1 then js 15 16 else if i=6 then Qd [(0,.pure),(1,.pure),(2,.pure),(3,.pure),(4,.pure),(5,.pure),(6,.pure),(7,.pure),(8,.pure),(9,.flt [1,2,3,4,5,6,7,8]),(10,.pure)] else []) Tryz.func124 ?_;dsimp only[Tryz.f124];push_cast [c1',c2',hel,c3'];exact ⟨[],rfl,rfl,by push_cast [ze,zd,CLe,zh],by push_cast [ze,zd,CLe,zh]⟩
 ·have c1':=eq_true c1;have c2':=Wy c2;have e:H8 x y=((12,0),false):=if_pos ⟨c1,c2⟩;rw[e];refine foB (fun i=>if i=1 then js 15 16 else if i=6 then Qd [(0,.pure),(1,.pure),(2,.pure),(3,.pure),(4,.pure),(5,.pure),(6,.pure),(7,.pure),(8,.pure),(9,.flt [1,2,3,4,5,6,7,8]),(10,.pure)] else []) Tryz.func124 ?_;dsimp only[Tryz.f124];push_cast [c1',c2',hel];exact ⟨[],rfl,rfl,by push_cast [ze,zd,CLe,zh],by push_cast [ze,zd,CLe,zh]⟩
 ·have c1':=Wy c1;have c2':=eq_true c2;have e:H8 x y=((13,0),false):=by unfold H8;rw[if_neg (fun q=>c1 q.1),if_pos ⟨c1,c2⟩]
  rw[e];refine foB (fun i=>if i=1 then js 15 16 else if i=6 then Qd [(0,.pure),(1,.pure),(2,.pure),(3,.pure),(4,.pure),(5,.pure),(6,.pure),(7,.pure),(8,.pure),(9,.flt [1,2,3,4,5,6,7,8]),(10,.pure)] else []) Tryz.func124 ?_;dsimp only[Tryz.f124];push_cast [c1',c2',hel];exact ⟨[],rfl,rfl,by push_cast [ze,zd,CLe,zh],by push_cast [ze,zd,CLe,zh]⟩
 ·have c1':=Wy c1;have c2':=Wy c2;have e:H8 x y=((15,5),decide (y.es = [])):=by unfold H8;rw[if_neg (fun q=>c1 q.1),if_neg (fun q=>c2 q.2)]
  rw[e];by_cases c3:y.es = []
  ·have c3':((y.es.length:Int)=0)=True:=eq_true (by rw[c3];rfl);rw[Wm c3];refine foB (fun i=>if i=1 then js 15 16 else if i=6 then Qd [(0,.pure),(1,.pure),(2,.pure),(3,.pure),(4,.pure),(5,.pure),(6,.pure),(7,.pure),(8,.pure),(9,.flt [1,2,3,4,5,6,7,8]),(10,.pure)] else []) Tryz.func124 ?_;dsimp only[Tryz.f124];push_cast [c1',c2',hel,c3'];exact ⟨[],rfl,rfl,by push_cast [ze,zd,CLe,zh],by push_cast [ze,zd,CLe,zh]⟩
  ·have c3':((y.es.length:Int)=0)=False:=Wy (by have:=WI.2 c3;omega);rw[Wj c3];refine foB (fun i=>if i=1 then js 15 16 else if i=6 then Qd [(0,.pure),(1,.pure),(2,.pure),(3,.pure),(4,.pure),(5,.pure),(6,.pure),(7,.pure),(8,.pure),(9,.flt [1,2,3,4,5,6,7,8]),(10,.pure)] else []) Tryz.func124 ?_;dsimp only[Tryz.f124];push_cast [c1',c2',hel,c3'];exact ⟨[],rfl,rfl,by push_cast [ze,zd,CLe,zh],by push_cast [ze,zd,CLe,zh]⟩
theorem zcg (h:GrD N d) (hN:N<=3000) (a t:zB) (k:Int) (o:Lz) (ops:List Lz) (u v:Lz) (hv:v.length<=3000) (ht:t.name.length<=100000) :
  Mw Tryz.prog GD 73 [.ptr 0 0] [vO (zsp a t (zf a.ino d.w.fs.xs) (zf t.ino d.w.fs.xs) (zl t.ino d.w.fs.xs)) d k o ops u v] 0 (zfy (mvJ d.w.fs o a t v).1 (mvJ d.w.fs o a t v).2) [vO (zsp a t (zf a.ino d.w.fs.xs) (zf t.ino d.w.fs.xs) (zl t.ino d.w.fs.xs)) d k o ops u v] 0:=by
 have hs:=(h.s (by omega)).ws.fs;have hha:=(vy k o (.sl 1 (zV ops)) 110 rfl).g0 (G':=GD);have hin:=(zcn d.w.fs h.b.wi.fs hs t.dir a.ino).g0 (G':=GD);have hre:Fun Tryz.prog GD 125 [.str v] (.agg [qJ (zaC v),.own 0 9 1 (zV (zp v)),qJ (jO v)]) 1:=(ke v (by omega)).g0;have hma:=(zeo t.name (by omega)).g0 (G':=GD);have hye:(zf t.ino d.w.fs.xs).es.length<=100000:=by
  cases hq:zl t.ino d.w.fs.xs with
  | true=>have:=hs.es hq;omega
  | false=>rw[y9 hq];exact Wb _
 have hov:=zlj a t (zf a.ino d.w.fs.xs) (zf t.ino d.w.fs.xs) true d k o ops u v hye;have e:mvJ d.w.fs o a t v=if zl t.ino d.w.fs.xs=true/\(110:UInt8)∈o then ((0,0),false)
  else if zl t.ino d.w.fs.xs=true/\a.ino=t.ino then ((9,0),false)
  else if (zf a.ino d.w.fs.xs).kind=2/\Ms d.w.fs.xs d.w.fs.xs.length t.dir a.ino=true then ((14,0),false)
  else if zl t.ino d.w.fs.xs=true then H8 (zf a.ino d.w.fs.xs) (zf t.ino d.w.fs.xs)
  else if jO v=true/\(zf a.ino d.w.fs.xs).kind≠2 then ((15,3),false) else if may t.name=false then ((15,9),false) else ((0,0),true):=rfl
 generalize mvJ d.w.fs o a t v=J at *;generalize Ms d.w.fs.xs d.w.fs.xs.length t.dir a.ino=I at *;generalize zf a.ino d.w.fs.xs=X at *;generalize zf t.ino d.w.fs.xs=Y at *;cases hT:zl t.ino d.w.fs.xs with
 | true =>
  rw[hT]at e;by_cases c1:(110:UInt8)∈o
  ·rw[if_pos ⟨rfl,c1⟩]at e;rw[Wm c1]at hha;subst e;refine foB (fun _=>[]) Tryz.func73 ?_;dsimp only[Tryz.f73];push_cast;refine cl hha ?_;push_cast;exact ⟨[],rfl,rfl,by push_cast [ze,zd,CLe,zh],by push_cast [ze,zd,CLe,zh]⟩
  rw[if_neg (fun q=>c1 q.2)]at e;rw[Wj c1]at hha;by_cases c2:a.ino=t.ino
  ·have c2':=eq_true c2;rw[if_pos ⟨rfl,c2⟩]at e;subst e;refine foB (fun _=>[]) Tryz.func73 ?_;dsimp only[Tryz.f73];push_cast;refine cl hha ?_;push_cast [c2'];exact ⟨[],rfl,rfl,by push_cast [ze,zd,CLe,zh],by push_cast [ze,zd,CLe,zh]⟩
  have c2':=Wy c2;rw[if_neg (fun q=>c2 q.2)]at e;by_cases c3:X.kind=2
  ·have c3':=eq_true c3;cases hI:I with
   | true =>
    rw[hI]at hin e;rw[if_pos ⟨c3,rfl⟩]at e;subst e;refine foB (fun _=>[]) Tryz.func73 ?_;dsimp only[Tryz.f73];push_cast;refine cl hha ?_;push_cast [c2',c3'];refine cl hin ?_;push_cast [c2',c3'];exact ⟨[],rfl,rfl,by push_cast [ze,zd,CLe,zh],by push_cast [ze,zd,CLe,zh]⟩
   | false =>
    rw[hI]at hin e;rw[if_neg (fun q=>by cases q.2),if_pos rfl]at e;subst e;refine foB (fun _=>[]) Tryz.func73 ?_;dsimp only[Tryz.f73];push_cast;refine cl hha ?_;push_cast [c2',c3'];refine cl hin ?_;push_cast [c2',c3'];refine VS [0] [] hov rfl (by decide) (by decide) (by simp) (by push_cast) (by push_cast) ?_;push_cast;exact ⟨[],rfl,rfl,by push_cast [ze,zd,CLe,zh],by push_cast [ze,zd,CLe,zh]⟩
  ·have c3':=Wy c3;rw[if_neg (fun q=>c3 q.1),if_pos rfl]at e;subst e;refine foB (fun _=>[]) Tryz.func73 ?_;dsimp only[Tryz.f73];push_cast;refine cl hha ?_;push_cast [c2',c3'];refine VS [0] [] hov rfl (by decide) (by decide) (by simp) (by push_cast) (by push_cast) ?_;push_cast;exact ⟨[],rfl,rfl,by push_cast [ze,zd,CLe,zh],by push_cast [ze,zd,CLe,zh]⟩
 | false =>
  rw[hT]at e;rw[if_neg (fun q=>by cases q.1),if_neg (fun q=>by cases q.1)]at e;by_cases c3:X.kind=2
  ·have c3':=eq_true c3;cases hI:I with
   | true =>
    rw[hI]at hin e;rw[if_pos ⟨c3,rfl⟩]at e;subst e;refine foB (fun _=>[]) Tryz.func73 ?_;dsimp only[Tryz.f73];push_cast [c3'];refine cl hin ?_;push_cast [c3'];exact ⟨[],rfl,rfl,by push_cast [ze,zd,CLe,zh],by push_cast [ze,zd,CLe,zh]⟩
   | false =>
    rw[hI]at hin e;rw[if_neg (fun q=>by cases q.2),if_neg (by decide),if_neg (fun q=>q.2 c3)]at e;cases hS:jO v
    all_goals
     rw[hS]at hre;cases hM:may t.name
     all_goals
      rw[hM]at hma e
      first | rw[if_pos rfl]at e | rw[if_neg (by decide)]at e
      subst e;refine foB (fun _=>[]) Tryz.func73 ?_;dsimp only[Tryz.f73];push_cast [c3'];refine cl hin ?_;push_cast [c3'];refine cl hre ?_;push_cast [c3'];refine cl hma ?_;push_cast;exact ⟨[],rfl,rfl,by push_cast [ze,zd,CLe,zh],by push_cast [ze,zd,CLe,zh]⟩
  ·have c3':=Wy c3;rw[if_neg (fun q=>c3 q.1),if_neg (by decide)]at e;cases hS:jO v with
   | true =>
    rw[hS]at hre e;rw[if_pos ⟨rfl,c3⟩]at e;subst e;refine foB (fun _=>[]) Tryz.func73 ?_;dsimp only[Tryz.f73];push_cast [c3'];refine cl hre ?_;push_cast [c3'];exact ⟨[],rfl,rfl,by push_cast [ze,zd,CLe,zh],by push_cast [ze,zd,CLe,zh]⟩
   | false =>
    rw[hS]at hre e;rw[if_neg (fun q=>by cases q.1)]at e;cases hM:may t.name
    all_goals
     rw[hM]at hma e
     first | rw[if_pos rfl]at e | rw[if_neg (by decide)]at e
     subst e;refine foB (fun _=>[]) Tryz.func73 ?_;dsimp only[Tryz.f73];push_cast [c3'];refine cl hre ?_;push_cast [c3'];refine cl hma ?_;push_cast;exact ⟨[],rfl,rfl,by push_cast [ze,zd,CLe,zh],by push_cast [ze,zd,CLe,zh]⟩
end
section
open CA CB
open Go.RowKit
abbrev yD:List C:=[.any,.any,.any,.any,.any,.any,.any,.any,.any,.any,.any,.any,.any,.any,.any,.any,.any,.any,.any,.any,.any,.any,.any,.any,.any,.any,.any,.any,.any,.any,.any,.any,.any,.any]
theorem zgo (h:GrD N d) (hN:N<=3000) (b:Lz) (hb:b.length<=100000) (k:Int) (o:Lz) (ops:List Lz) (u v:Lz) (hu:u.length<=3000) (hv:v.length<=3000) :
  YX Tryz.prog GD 41 [.ptr 0 0,.str b] [vO znv d k o ops u v] 0 (fun r bx' n=>n=0/\r=GJ (Z6 b o d u v)/\∃ X,bx' = [X]):=by
 have hso:=zcG h hN b hb k o ops u v hu hv;have hdl:d.diags.length<=80000:=by have:=h.b.diags;omega
 have htl:=fun w e:Int=>zh0 d hdl 4 w u v e hu hv;cases hM:mvS d.w.fs b u v with
 | some e =>
  have eo:Z6 b o d u v=YJ d (Qb 4 e.1 u v e.2):=by unfold Z6;rw[hM]
  have hne:=Wy (zpX hM);rw[hM]at hso;simp only[WZ,Aa]at hso;have ht:=htl e.1 e.2;rw[eo];refine foX (fun i=>if i=7 then [false,false,false,false,false,false,false,false,false,false,false,false,false,false,false,false,false,true] else []) Tryz.func41 ?_;dsimp only[Tryz.f41];push_cast;refine jI [0] [] hso rfl (by decide) (by decide) (by simp) (by push_cast) (by push_cast) (fun r bx' m hp=>?_);obtain ⟨rfl,rfl,rfl⟩:=hp;push_cast [hne];refine cl ht ?_;push_cast;exact ⟨_,[yD],0,⟨⟨rfl,rfl,_,rfl⟩,Wc _⟩,[],rfl,rfl,by push_cast [ze,zd,CLe,zh,YJ],by push_cast [ze,zd,CLe,zh]⟩
 | none =>
  obtain ⟨s1,s2,s3,s4,s5⟩:=zmm hM;have hi:=h.b.wi.fs;have hr:=h.r.fs;have hok:=h.ok (by omega);have hS:=(h.s (by omega)).ws.fs;have eo:Z6 b o d u v=if (mvJ d.w.fs o (zR d.w.fs b u false).1 (zR d.w.fs b v false).1 v).2 then zl4 d (zR d.w.fs b u false).1 (zR d.w.fs b v false).1
   else if (mvJ d.w.fs o (zR d.w.fs b u false).1 (zR d.w.fs b v false).1 v).1.1=0 then d
   else YJ d (Qb 4 (mvJ d.w.fs o (zR d.w.fs b u false).1 (zR d.w.fs b v false).1 v).1.1 u v (mvJ d.w.fs o (zR d.w.fs b u false).1 (zR d.w.fs b v false).1 v).1.2):=by
   show (match mvS d.w.fs b u v with | some e=>_ | none=>_)=_
   rw[hM]
  have hjd:=zcg h hN (zR d.w.fs b u false).1 (zR d.w.fs b v false).1 k o ops u v hv (zdS hS b v false (by omega));rw[hM]at hso;simp only[Ot,O9]at hso;have ha:=Q0 (Vj s1) hi s2 s3;have hgt:=Vj s4;have ma:=Qw hr ha;have hjo:=zmA (f:=d.w.fs) (o:=o) (a:=(zR d.w.fs b u false).1) (t:=(zR d.w.fs b v false).1) (v:=v);have hpa:=(MQ d.w.fs hok (zR d.w.fs b u false).1 ha.has ha.kind ma).g0 (G':=GD);have hla:=VD hok ha.has ha.kind ma;generalize (zR d.w.fs b u false).1=A at *;generalize (zR d.w.fs b v false).1=T at *;cases hJ2:(mvJ d.w.fs o A T v).2 with
  | false =>
   rw[hJ2]at hjd eo;rw[if_neg (by decide)]at eo;have ht:=htl (mvJ d.w.fs o A T v).1.1 (mvJ d.w.fs o A T v).1.2;generalize (mvJ d.w.fs o A T v).1=J at *;by_cases h0:J.1=0
   ·have h0':=eq_true h0;rw[if_pos h0]at eo;rw[eo];refine foX (fun i=>if i=7 then [false,false,false,false,false,false,false,false,false,false,false,false,false,false,false,false,false,true] else []) Tryz.func41 ?_;dsimp only[Tryz.f41];push_cast;refine jI [0] [] hso rfl (by decide) (by decide) (by simp) (by push_cast) (by push_cast) (fun r bx' m hp=>?_);obtain ⟨rfl,rfl,rfl⟩:=hp;push_cast;refine VS [0] [] hjd rfl (by decide) (by decide) (by simp) (by push_cast) (by push_cast) ?_;push_cast [h0'];exact ⟨_,[yD],0,⟨⟨rfl,rfl,_,rfl⟩,Wc _⟩,[],rfl,rfl,by push_cast [ze,zd,CLe,zh],by push_cast [ze,zd,CLe,zh]⟩
   ·have h0':=Wy h0;rw[if_neg h0]at eo;rw[eo];refine foX (fun i=>if i=7 then [false,false,false,false,false,false,false,false,false,false,false,false,false,false,false,false,false,true] else []) Tryz.func41 ?_;dsimp only[Tryz.f41];push_cast;refine jI [0] [] hso rfl (by decide) (by decide) (by simp) (by push_cast) (by push_cast) (fun r bx' m hp=>?_);obtain ⟨rfl,rfl,rfl⟩:=hp;push_cast;refine VS [0] [] hjd rfl (by decide) (by decide) (by simp) (by push_cast) (by push_cast) ?_;push_cast [h0'];refine cl ht ?_;push_cast;exact ⟨_,[yD],0,⟨⟨rfl,rfl,_,rfl⟩,Wc _⟩,[],rfl,rfl,by push_cast [ze,zd,CLe,zh,YJ],by push_cast [ze,zd,CLe,zh]⟩
  | true =>
   rw[hJ2]at hjd eo;rw[if_pos rfl]at eo;obtain ⟨j1,j2,_⟩:=hjo hJ2;have gT:zl T.dir d.w.fs.xs=true/\(zf T.dir d.w.fs.xs).kind=2/\T.ino=zT T.name (zf T.dir d.w.fs.xs).es:=hgt.resolve_left s5;have mt:may T.name=true:=by
    cases hq:zl T.ino d.w.fs.xs with
    | true=>exact Qw hr (Q0 hgt hi hq s5)
    | false=>exact (j2 hq).1
   have hpt:=(MQ d.w.fs hok T gT.1 gT.2.1 mt).g0 (G':=GD);have hlt:=VD hok gT.1 gT.2.1 mt;have eg:zl4 d A T=(Qe (if zl T.ino d.w.fs.xs then (Qe d (Ga (qp d.w.fs T))).1 else d) (JT (qp d.w.fs A) (qp d.w.fs T))).1:=rfl;have hrm:=zsq d (h.s (by omega)) (qp d.w.fs T) (by omega);have h1:=h.add (o:=Ga (qp d.w.fs T)) (Wb _) (show ¬(7:Int)=3 by decide);rw[show opL (Ga (qp d.w.fs T)) = [.sc (.int .i64 7),.sc (.int .i64 0),.str (qp d.w.fs T),.str [],.str []] from rfl]at hrm;cases hT:zl T.ino d.w.fs.xs with
   | true =>
    rw[hT,if_pos rfl]at eg;rw[hT]at hso hjd;have hmv:=zmg _ (h1.s (by omega)) (qp d.w.fs A) (qp d.w.fs T) (by omega) (by omega);rw[show opL (JT (qp d.w.fs A) (qp d.w.fs T)) = [.sc (.int .i64 6),.sc (.int .i64 0),.str (qp d.w.fs A),.str (qp d.w.fs T),.str []] from rfl]at hmv;rw[eo,eg];generalize (Qe d (Ga (qp d.w.fs T)))=R1 at *;generalize (Qe R1.1 (JT (qp d.w.fs A) (qp d.w.fs T)))=R2 at *;refine foX (fun i=>if i=7 then [false,false,false,false,false,false,false,false,false,false,false,false,false,false,false,false,false,true] else []) Tryz.func41 ?_;dsimp only[Tryz.f41];push_cast;refine jI [0] [] hso rfl (by decide) (by decide) (by simp) (by push_cast) (by push_cast) (fun r bx' m hp=>?_);obtain ⟨rfl,rfl,rfl⟩:=hp;push_cast;refine VS [0] [] hjd rfl (by decide) (by decide) (by simp) (by push_cast) (by push_cast) ?_;push_cast;refine cl hpa ?_;push_cast;refine cl hpt ?_;push_cast;refine cl hrm ?_;push_cast;refine cl hmv ?_;push_cast;exact ⟨_,[yD],0,⟨⟨rfl,rfl,_,rfl⟩,Wc _⟩,[],rfl,rfl,by push_cast [ze,zd,CLe,zh],by push_cast [ze,zd,CLe,zh]⟩
   | false =>
    rw[hT,if_neg (by decide)]at eg;rw[hT]at hso hjd;have hmv:=zmg d (h.s (by omega)) (qp d.w.fs A) (qp d.w.fs T) (by omega) (by omega);rw[show opL (JT (qp d.w.fs A) (qp d.w.fs T)) = [.sc (.int .i64 6),.sc (.int .i64 0),.str (qp d.w.fs A),.str (qp d.w.fs T),.str []] from rfl]at hmv;rw[eo,eg];generalize (Qe d (JT (qp d.w.fs A) (qp d.w.fs T)))=R2 at *;refine foX (fun i=>if i=7 then [false,false,false,false,false,false,false,false,false,false,false,false,false,false,false,false,false,true] else []) Tryz.func41 ?_;dsimp only[Tryz.f41];push_cast;refine jI [0] [] hso rfl (by decide) (by decide) (by simp) (by push_cast) (by push_cast) (fun r bx' m hp=>?_);obtain ⟨rfl,rfl,rfl⟩:=hp;push_cast;refine VS [0] [] hjd rfl (by decide) (by decide) (by simp) (by push_cast) (by push_cast) ?_;push_cast;refine cl hpa ?_;push_cast;refine cl hpt ?_;push_cast;refine cl hmv ?_;push_cast;exact ⟨_,[yD],0,⟨⟨rfl,rfl,_,rfl⟩,Wc _⟩,[],rfl,rfl,by push_cast [ze,zd,CLe,zh],by push_cast [ze,zd,CLe,zh]⟩
end
section
open CA CB
open Go.RowKit
theorem Z3 (k:Int) (b o:Lz) (ops:List Lz) {N:Nat} {d:zX} (h:GrD N d) (hN:N+2*ops.length+2<=2000) (hb:b.length<=1000) (hp:∀ x∈ops,x.length<=1000) (h1:0<ops.length):Fun Tryz.prog GD 12 [GJ d,.str b,.agg (zpw k o ops)] (GJ (zdV k b o ops d)) 0:=by
 have hll:(zV ops).length=ops.length:=We ..;have hS:=(h.s (by omega)).ws.fs;have hpl:=(zcx d.w.fs h.b.wi.fs h.r.fs hS h.dat b (by omega) k o ops (by omega) hp).g0 (G':=GD);have e:zdV k b o ops d=match JL d.w.fs b k o ops with | none=>YJ d (Qb k 10 (ops.getLastD []) [] 0) | some ps=>zj9 b o (ops.zip ps) d:=rfl
 cases hP:JL d.w.fs b k o ops with
 | none =>
  rw[hP]at hpl e;simp only[Ot,Bz]at hpl;have hlg:=US h1;have hla:(zV ops)[ops.length-1]?=some [.str (ops.getLastD [])]:=by rw[WA,hlg];rfl
  have hlx:((ops.length:Int)-1).toNat=ops.length-1:=by omega
  have hl2:(ops.getLastD []).length<=1000:=hp _ (Wg hlg);have ht:=zh0 d (by have:=h.b.diags;omega) k 10 (ops.getLastD []) [] 0 (by omega) (Wb _);rw[e];refine fof (fun i=>if i=3 then [false,false,false,false,false,false,false,false,false,false,false,false,true] else if i=7 then [false,false,false,false,false,false,false,false,false,true] else []) Tryz.func12 ?_;dsimp only[Tryz.f12];push_cast;refine cl hpl ?_;push_cast [hll,hla,hlx]
  repeat refine an ?_
  refine cl ht ?_;push_cast;exact dn (by push_cast [ze,zd,CLe,zh,YJ])
 | some ps =>
  rw[hP]at hpl e;simp only[WZ,AZ]at hpl;obtain ⟨p1,p2⟩:=zda hP hp;have hpsl:(zV ps).length=ps.length:=We ..;have hz:(ops.zip ps).length=ps.length:=by rw[List.length_zip];omega
  have e:zdV k b o ops d=zj9 b o (ops.zip ps) d:=e;rw[e];refine fof (fun i=>if i=3 then [false,false,false,false,false,false,false,false,false,false,false,false,true] else if i=7 then [false,false,false,false,false,false,false,false,false,true] else []) Tryz.func12 ?_;dsimp only[Tryz.f12];push_cast;refine cl hpl ?_;push_cast [hpsl];refine loop (fun q:Nat×zX=>⟨[(1,.str b),(3,.ptr 0 0),(5,.ptr 1 0),(6,.ptr 2 0),(35,.sl 1 (zV ps)),(36,.sc (.int .i64 (ps.length:Nat))),(37,.sc (.int .i64 q.1))],[zsV q.2,zpw k o ops,M7],0,0⟩) (fun q=>q.1<=ps.length/\q.2=zj9 b o ((ops.zip ps).take q.1) d/\GrD (N+2*q.1) q.2) (fun q=>ps.length-q.1) (0,d) ⟨Wb _,rfl,h⟩ ?_ ?_
  ·exact wk (h4:=by push_cast [ze,zd,CLe,zh,hpsl])
  rintro ⟨i,D⟩ ⟨i1,i2,i3⟩;dsimp only at i1 i2 i3;by_cases hi:i<ps.length
  case neg =>
   have hil:i=ps.length:=by omega
   have hi':=Wy (show ¬(i:Int)<ps.length by omega);rw[hil,←hz,Oi]at i2;push_cast [hi'];rw[←i2];exact dn
  have hi':=eq_true (show (i:Int)<ps.length by omega);have hio:i<ops.length:=by omega
  have hgp:(zV ps)[i]?=some [.str ps[i]]:=by simp[zV,hi]
  have hgo:(zV ops)[i]?=some [.str ops[i]]:=by simp[zV,hio]
  have hlp:=p2 _ (Ww hi);have hlo:=hp _ (Ww hio);have hst:Z6 b o D ops[i] ps[i]=zj9 b o ((ops.zip ps).take (i+1)) d:=by
   have hzi:i<(ops.zip ps).length:=by omega
   rw[Ai hzi];unfold zj9;rw[List.foldl_append];show Z6 b o D ops[i] ps[i]=Z6 b o (zj9 b o ((ops.zip ps).take i) d) (ops.zip ps)[i].1 (ops.zip ps)[i].2;rw[←i2,List.getElem_zip]
  have hG:=zpb i3 b o ops[i] ps[i];have hg:=zgo i3 (by omega) b (by omega) k o ops ops[i] ps[i] (by omega) (by omega);generalize ops[i]=u at *;generalize ps[i]=v at *;generalize Z6 b o D u v=D2 at *;push_cast [hi',hgp,hgo,hll,hpsl,On]
  repeat refine an ?_
  push_cast [hi',hgp,hgo,hll,hpsl,On]
  repeat refine an ?_
  refine jI [3] [] hg rfl (by decide) (by decide) (by simp) (by push_cast) (by push_cast) (fun r bx' m hp=>?_);obtain ⟨rfl,rfl,X,rfl⟩:=hp;push_cast
  repeat refine an ?_
  exact ⟨(i+1,D2),⟨by dsimp only;omega,hst,by rw[show N+2*(i+1)=N+2*i+2 by omega];exact hG⟩,by dsimp only;omega,wk⟩
end
section
open CA CB
open Go.RowKit
end
section
open CA CB
open Go.RowKit
end
section
open CA CB
open Go.RowKit
def YO (w:qj) (b:Lz) (l:List Lz):Prop:=(∀ x∈l.take 20,x.length<=1000)/\okW w/\w.fs.next<549755813888/\Jj w.kept<536870912/\Vz w.fs b []=true/\Jc b=true/\l.length<=6
instance (w:qj) (b:Lz) (l:List Lz):Decidable (YO w b l):=by unfold YO;infer_instance
theorem zcR (w:qj) (b:Lz) (l:List Lz) (hb:b.length<=2000000):Fun Tryz.prog G0 10 [jP w,.str b,.sl 1 (zV l)] (qJ (decide (YO w b l))) 0:=by
 have hll:(zV l).length=l.length:=We ..;have hpl:=Qt b hb;unfold Yw at hpl;have hok:=zht w;have hsh:=zdp w.fs b [];refine fon Tryz.func10 ?_;dsimp only[Tryz.f10];push_cast;refine cl hpl ?_;push_cast;refine loop (fun i:Nat=>⟨[(1,.str b),(2,.sl 1 (zV l)),(3,.ptr 0 0),(8,.sc (.bool (Jc b))),(9,.sc (.int .i64 i))],[Uc w],0,0⟩) (fun i=>i<=l.length/\i<=20/\∀ x∈l.take i,x.length<=1000) (fun i=>l.length-i) 0 ⟨Wb _,Wb _,fun x hx=>by rw[OF]at hx;cases hx⟩ ?_ ?_
 ·exact wk
 rintro i ⟨h1,h2,h3⟩;by_cases hi:i<l.length
 ·have hi':=eq_true (show (i:Int)<l.length by omega);by_cases h20:i<20
  ·have h20':=eq_true (show (i:Int)<20 by omega);have hgi:(zV l)[i]?=some [.str l[i]]:=by simp[zV,hi]
   have ht:l.take (i+1)=l.take i++[l[i]]:=Ai hi;by_cases hx:l[i].length<=1000
   ·have hx':=Wy (show ¬(1000:Int)<l[i].length by omega);push_cast [hi',h20',hgi,hll,hx',On]
    repeat refine an ?_
    exact ⟨i+1,⟨by omega,by omega,fun x hm=>by
     rw[ht]at hm;rcases WC.1 hm with hm | hm
     ·exact h3 x hm
     ·rw[W0.1 hm];exact hx⟩,by omega,wk⟩
   ·have hx':=eq_true (show (1000:Int)<l[i].length by omega);have hn:¬YO w b l:=fun h=>hx (h.1 _ (AE.2 ⟨i,by omega,rfl⟩));push_cast [hi',h20',hgi,hll,hx',On]
    repeat refine an ?_
    exact dn (by push_cast [ze,zd,CLe,zh,hn])
  ·have h20':=Wy (show ¬(i:Int)<20 by omega);have hx:∀ x∈l.take 20,x.length<=1000:=by rw[show i=20 by omega]at h3;exact h3
   by_cases k1:okW w
   case neg =>
    have hn:¬YO w b l:=fun h=>k1 h.2.1;rw[Wj k1]at hok;push_cast [hi',h20',hll];refine cl hok ?_;push_cast;exact dn (by push_cast [ze,zd,CLe,zh,hn])
   rw[Wm k1]at hok;have hs:=k1.2.2.2.2.1;have hla:=kL (G:=G0) w (by have:=(zgf k1).klen;omega) hs.1 hs.2;by_cases k2:w.fs.next<549755813888
   case neg =>
    have hn:¬YO w b l:=fun h=>k2 h.2.2.1;have k2':=Wy k2;push_cast [hi',h20',hll];refine cl hok ?_;push_cast [k2'];exact dn (by push_cast [ze,zd,CLe,zh,hn])
   have k2':=eq_true k2;by_cases k3:Jj w.kept<536870912
   case neg =>
    have hn:¬YO w b l:=fun h=>k3 h.2.2.2.1;have k3':=Wy k3;push_cast [hi',h20',hll];refine cl hok ?_;push_cast [k2'];refine cl hla ?_;push_cast [k3'];exact dn (by push_cast [ze,zd,CLe,zh,hn])
   have k3':=eq_true k3;cases k4:Vz w.fs b []
   case false =>
    have hn:¬YO w b l:=fun h=>by rw[h.2.2.2.2.1]at k4;cases k4
    rw[k4]at hsh;push_cast [hi',h20',hll];refine cl hok ?_;push_cast [k2'];refine cl hla ?_;push_cast [k3'];refine cl hsh ?_;push_cast;exact dn (by push_cast [ze,zd,CLe,zh,hn])
   rw[k4]at hsh;cases k5:Jc b
   case false =>
    have hn:¬YO w b l:=fun h=>by rw[h.2.2.2.2.2.1]at k5;cases k5
    push_cast [hi',h20',hll];refine cl hok ?_;push_cast [k2'];refine cl hla ?_;push_cast [k3'];refine cl hsh ?_;push_cast;exact dn (by push_cast [ze,zd,CLe,zh,hn])
   by_cases k6:l.length<=6
   ·have hn:YO w b l:=⟨hx,k1,k2,k3,k4,k5,k6⟩;have k6':=eq_true (show (l.length:Int)<=6 by omega);push_cast [hi',h20',hll];refine cl hok ?_;push_cast [k2'];refine cl hla ?_;push_cast [k3'];refine cl hsh ?_;push_cast [hll,k6'];exact dn (by push_cast [ze,zd,CLe,zh,hn])
   ·have hn:¬YO w b l:=fun h=>k6 h.2.2.2.2.2.2;have k6':=Wy (show ¬(l.length:Int)<=6 by omega);push_cast [hi',h20',hll];refine cl hok ?_;push_cast [k2'];refine cl hla ?_;push_cast [k3'];refine cl hsh ?_;push_cast [hll,k6'];exact dn (by push_cast [ze,zd,CLe,zh,hn])
 ·have hi':=Wy (show ¬(i:Int)<l.length by omega);have hx:∀ x∈l.take 20,x.length<=1000:=by
   rw[show i=l.length by omega,Oi]at h3;exact fun x hm=>h3 x (Wx hm)
  by_cases k1:okW w
  case neg =>
   have hn:¬YO w b l:=fun h=>k1 h.2.1;rw[Wj k1]at hok;push_cast [hi',hll];refine cl hok ?_;push_cast;exact dn (by push_cast [ze,zd,CLe,zh,hn])
  rw[Wm k1]at hok;have hs:=k1.2.2.2.2.1;have hla:=kL (G:=G0) w (by have:=(zgf k1).klen;omega) hs.1 hs.2;by_cases k2:w.fs.next<549755813888
  case neg =>
   have hn:¬YO w b l:=fun h=>k2 h.2.2.1;have k2':=Wy k2;push_cast [hi',hll];refine cl hok ?_;push_cast [k2'];exact dn (by push_cast [ze,zd,CLe,zh,hn])
  have k2':=eq_true k2;by_cases k3:Jj w.kept<536870912
  case neg =>
   have hn:¬YO w b l:=fun h=>k3 h.2.2.2.1;have k3':=Wy k3;push_cast [hi',hll];refine cl hok ?_;push_cast [k2'];refine cl hla ?_;push_cast [k3'];exact dn (by push_cast [ze,zd,CLe,zh,hn])
  have k3':=eq_true k3;cases k4:Vz w.fs b []
  case false =>
   have hn:¬YO w b l:=fun h=>by rw[h.2.2.2.2.1]at k4;cases k4
   rw[k4]at hsh;push_cast [hi',hll];refine cl hok ?_;push_cast [k2'];refine cl hla ?_;push_cast [k3'];refine cl hsh ?_;push_cast;exact dn (by push_cast [ze,zd,CLe,zh,hn])
  rw[k4]at hsh;cases k5:Jc b
  case false =>
   have hn:¬YO w b l:=fun h=>by rw[h.2.2.2.2.2.1]at k5;cases k5
   push_cast [hi',hll];refine cl hok ?_;push_cast [k2'];refine cl hla ?_;push_cast [k3'];refine cl hsh ?_;push_cast;exact dn (by push_cast [ze,zd,CLe,zh,hn])
  by_cases k6:l.length<=6
  ·have hn:YO w b l:=⟨hx,k1,k2,k3,k4,k5,k6⟩;have k6':=eq_true (show (l.length:Int)<=6 by omega);push_cast [hi',hll];refine cl hok ?_;push_cast [k2'];refine cl hla ?_;push_cast [k3'];refine cl hsh ?_;push_cast [hll,k6'];exact dn (by push_cast [ze,zd,CLe,zh,hn])
  ·have hn:¬YO w b l:=fun h=>k6 h.2.2.2.2.2.2;have k6':=Wy (show ¬(l.length:Int)<=6 by omega);push_cast [hi',hll];refine cl hok ?_;push_cast [k2'];refine cl hla ?_;push_cast [k3'];refine cl hsh ?_;push_cast [hll,k6'];exact dn (by push_cast [ze,zd,CLe,zh,hn])
theorem zjC (k:Int) (l:List Lz) (hk:k=1∨k=2∨k=3∨k=4∨k=5) (hl:l.length<=90) (hs:∀ x∈l,x.length<=1000):Fun Tryz.prog G0 11 [.sc (.int .i64 k),.sl 1 (zV l)] (.tup [zuh (Yi (jC k :: l)).1,qJ (decide ((Yi (jC k :: l)).2 = []))]) 1:=by
 have hn:=yL k;have hll:(zV l).length=l.length:=We ..;have hr:=zid (jC k :: l) (by rw[Wh];omega) (fun x hx=>by
  rcases WF.1 hx with rfl | hx
  ·rcases hk with rfl | rfl | rfl | rfl | rfl<;>decide
  ·exact hs x hx)
 have e:zV (jC k :: l) = [.str (jC k)] :: zV l:=rfl;rw[e]at hr;refine fof (fun i=>if i=1 then js 9 10 else if i=2 then [false,false,false,true] else []) Tryz.func11 ?_;dsimp only[Tryz.f11];push_cast;refine cl hn ?_;push_cast
 repeat refine an ?_
 refine cl hr ?_;push_cast;exact ⟨[.inl 1],rfl,rfl,by push_cast [ze,zd,CLe,zh]⟩
end
section
theorem zji (k:Int) (s:Lz):(YK k s 58).length<=58:=by
 unfold YK;refine WJ (OI _ _) ?_;simp
theorem zak (l:List Lz):(Yi l).1.opts.length<=58/\(Yi l).1.operands.length<=l.length/\∀ x∈(Yi l).1.operands,x∈l:=by
 refine ⟨?_,zgJ l,?_⟩
 ·cases l with
  | nil=>exact Wb _
  | cons w r =>
   rw[Yi];split
   ·exact Wb _
   ·unfold jL;split
    ·exact Wb _
    ·split
     ·exact Wb _
     ·exact zji _ _
 ·cases l with
  | nil=>intro x hx;cases hx
  | cons w r =>
   rw[Yi];split
   ·intro x hx;cases hx
   ·unfold jL;split
    ·intro x hx;cases hx
    ·split
     ·intro x hx;cases hx
     ·exact fun x hx=>Wl _ (WU hx)
theorem zjl (h:YO w b l):Gd w.fs.xs/\b.length<=1000:=by
 have hs:=h.2.2.2.2.1;have hl:=(zgf h.2.1).len;unfold Vz at hs;simp only[Wp,WW,OQ,W5]at hs;obtain ⟨⟨h1,h2⟩,_⟩:=hs;rw[Wf (by omega)]at h1;refine ⟨fun x hx hk=>?_,by omega⟩;have:=h1 x hx;unfold UR at this;simp only[Wp,WW,not_and]at this;have:=this hk;omega
theorem G7 (h:YO w b l):∀ x∈l,x.length<=1000:=by
 have h1:=h.1;rw[Wf (by have:=h.2.2.2.2.2.2;omega)]at h1;exact h1
theorem zcN (w:Lz) (r:List Lz):(Yi (w :: r)).1.operands.length<=r.length:=by
 rw[Yi];split
 ·exact Wb _
 ·unfold jL;split
  ·exact Wb _
  ·split
   ·exact Wb _
   ·show (r.drop _).length<=_;rw[W3];omega
end
section
open CA CB
open Go.RowKit
def JM:qj:=⟨⟨9,9,9,[⟨1,2,0,[],1,[⟨[100],3⟩,⟨[102],4⟩,⟨[103],5⟩]⟩,⟨3,2,1,[],1,[]⟩,⟨4,1,1,[122],0,[]⟩,⟨5,1,1,[121],0,[]⟩]⟩,[],[]⟩
theorem ye:okW JM:=by decide
theorem G9:GrD 0 (Gf JM):=zmr ye (by
 intro x hx;have:∀ x∈JM.fs.xs,x.kind=3->x.data.length<=1000:=by decide
 exact this x hx) (by decide) (by decide)
theorem uI:Fun Tryz.prog G0 31 [] (jP JM) 0:=by
 have h1:=ziU (G:=G0) 9 9;have h2:=Jz (G:=G0) ⟨9,9,9,[⟨1,2,0,[],1,[]⟩]⟩ ⟨1,2,0,[],1,[⟨[100],3⟩,⟨[102],4⟩,⟨[103],5⟩]⟩ (by decide);have h3:=NJ (G:=G0) ⟨9,9,9,[⟨1,2,0,[],1,[⟨[100],3⟩,⟨[102],4⟩,⟨[103],5⟩]⟩]⟩ ⟨3,2,1,[],1,[]⟩ rfl (by decide);have h4:=NJ (G:=G0) ⟨9,9,9,[⟨1,2,0,[],1,[⟨[100],3⟩,⟨[102],4⟩,⟨[103],5⟩]⟩,⟨3,2,1,[],1,[]⟩]⟩ ⟨5,1,1,[121],0,[]⟩ rfl (by decide);have h5:=NJ (G:=G0) ⟨9,9,9,[⟨1,2,0,[],1,[⟨[100],3⟩,⟨[102],4⟩,⟨[103],5⟩]⟩,⟨3,2,1,[],1,[]⟩,⟨5,1,1,[121],0,[]⟩]⟩ ⟨4,1,1,[122],0,[]⟩ rfl (by decide);have e2:qd ⟨1,2,0,[],1,[⟨[100],3⟩,⟨[102],4⟩,⟨[103],5⟩]⟩ [⟨1,2,0,[],1,[]⟩] = [⟨1,2,0,[],1,[⟨[100],3⟩,⟨[102],4⟩,⟨[103],5⟩]⟩]:=by decide
 have e3:qd ⟨3,2,1,[],1,[]⟩ [⟨1,2,0,[],1,[⟨[100],3⟩,⟨[102],4⟩,⟨[103],5⟩]⟩] = [⟨1,2,0,[],1,[⟨[100],3⟩,⟨[102],4⟩,⟨[103],5⟩]⟩,⟨3,2,1,[],1,[]⟩]:=by decide
 have e4:qd ⟨5,1,1,[121],0,[]⟩ [⟨1,2,0,[],1,[⟨[100],3⟩,⟨[102],4⟩,⟨[103],5⟩]⟩,⟨3,2,1,[],1,[]⟩] = [⟨1,2,0,[],1,[⟨[100],3⟩,⟨[102],4⟩,⟨[103],5⟩]⟩,⟨3,2,1,[],1,[]⟩,⟨5,1,1,[121],0,[]⟩]:=by decide
 have e5:qd ⟨4,1,1,[122],0,[]⟩ [⟨1,2,0,[],1,[⟨[100],3⟩,⟨[102],4⟩,⟨[103],5⟩]⟩,⟨3,2,1,[],1,[]⟩,⟨5,1,1,[121],0,[]⟩]=JM.fs.xs:=by decide
 simp only[e2]at h2;simp only[e3]at h3;simp only[e4]at h4;simp only[e5]at h5;refine fon Tryz.func31 ?_;dsimp only[Tryz.f31];push_cast;refine cl h1 ?_;push_cast;refine cl h2 ?_;push_cast;refine cl h3 ?_;push_cast;refine cl h4 ?_;push_cast;refine cl h5 ?_;push_cast;exact dn (by push_cast [ze,zd,CLe,zh,JM])
def tB:List Lz:=[[109,118,58,32,99,97,110,110,111,116,32,115,116,97,116,32,34,120,34,58,32,78,111,32,115,117,99,104,32,102,105,108,101,32,111,114,32,100,105,114,101,99,116,111,114,121]]
def tC:List Lz:=[[109,118,58,32,99,97,110,110,111,116,32,111,118,101,114,119,114,105,116,101,32,100,105,114,101,99,116,111,114,121,32,34,100,34,32,119,105,116,104,32,110,111,110,45,100,105,114,101,99,116,111,114,121,32,34,102,34]]
theorem uA:Fun Tryz.prog GD 9 [] (qJ true) 0:=by
 have q0:Fun Tryz.prog GD 31 [] (jP JM) 0:=uI.g0;have q1:Fun Tryz.prog GD 13 [jP JM] (GJ (Gf JM)) 0:=(yy JM (by decide) ye.2.2.2.2.1).g0;have q2:Fun Tryz.prog GD 12 [GJ (Gf JM),.str [47],.agg [.sc (.int .i64 4),.str [],.sl 1 [[.str [102]],[.str [103]]]]] (GJ (zdV 4 [47] [] [[102],[103]] (Gf JM))) 0:=Z3 4 [47] [] [[102],[103]] G9 (by decide) (by decide) (by decide) (by decide);have q3:Fun Tryz.prog GD 12 [GJ (Gf JM),.str [47],.agg [.sc (.int .i64 4),.str [],.sl 1 [[.str [102]],[.str [120]],[.str [100]]]]] (GJ (zdV 4 [47] [] [[102],[120],[100]] (Gf JM))) 0:=Z3 4 [47] [] [[102],[120],[100]] G9 (by decide) (by decide) (by decide) (by decide);have q4:Fun Tryz.prog GD 12 [GJ (Gf JM),.str [47],.agg [.sc (.int .i64 4),.str [84],.sl 1 [[.str [102]],[.str [100]]]]] (GJ (zdV 4 [47] [84] [[102],[100]] (Gf JM))) 0:=Z3 4 [47] [84] [[102],[100]] G9 (by decide) (by decide) (by decide) (by decide);obtain ⟨dA,hA⟩:∃ d,zdV 4 [47] [] [[102],[103]] (Gf JM)=d:=⟨_,rfl⟩;obtain ⟨dB,hB⟩:∃ d,zdV 4 [47] [] [[102],[120],[100]] (Gf JM)=d:=⟨_,rfl⟩;obtain ⟨dC,hC⟩:∃ d,zdV 4 [47] [84] [[102],[100]] (Gf JM)=d:=⟨_,rfl⟩;have p1:dA.ops = [⟨7,1,[47,103],[],[]⟩,⟨6,0,[47,102],[47,103],[]⟩]:=by rw[←hA];kernel_rfl
 have p2:dB.ops = [⟨6,0,[47,102],[47,100,47,102],[]⟩]:=by rw[←hB];kernel_rfl
 have p3:dB.diags=tB:=by rw[←hB];kernel_rfl
 have p4:dC.diags=tC:=by rw[←hC];kernel_rfl
 rw[hA]at q2;rw[hB]at q3;rw[hC]at q4;have q5:Fun Tryz.prog GD 32 [.sl 5 (dA.ops.map opL),.sl 5 [opL ⟨7,1,[47,103],[],[]⟩,opL ⟨6,0,[47,102],[47,103],[]⟩]] (qJ true) 0:=by
  have h:=MT dA.ops [⟨7,1,[47,103],[],[]⟩,⟨6,0,[47,102],[47,103],[]⟩] (by rw[p1];decide);rw[show Yf dA.ops [⟨7,1,[47,103],[],[]⟩,⟨6,0,[47,102],[47,103],[]⟩]=true by rw[p1];rfl]at h;exact h.g0
 have q6:Fun Tryz.prog GD 32 [.sl 5 (dB.ops.map opL),.sl 5 [opL ⟨6,0,[47,102],[47,100,47,102],[]⟩]] (qJ true) 0:=by
  have h:=MT dB.ops [⟨6,0,[47,102],[47,100,47,102],[]⟩] (by rw[p2];decide);rw[show Yf dB.ops [⟨6,0,[47,102],[47,100,47,102],[]⟩]=true by rw[p2];rfl]at h;exact h.g0
 have q7:Fun Tryz.prog GD 16 [.sl 1 (zV dB.diags),.sl 1 (zV tB)] (qJ true) 0:=by
  have h:=zbL dB.diags tB (by rw[p3];decide);rw[Wm p3]at h;exact h.g0
 have q8:Fun Tryz.prog GD 16 [.sl 1 (zV dC.diags),.sl 1 (zV tC)] (qJ true) 0:=by
  have h:=zbL dC.diags tC (by rw[p4];decide);rw[Wm p4]at h;exact h.g0
 clear hA hB hC p1 p2 p3 p4;refine fon Tryz.func9 ?_;dsimp only[Tryz.f9];push_cast;refine cl q0 ?_;push_cast;refine cl q1 ?_;push_cast;refine cl q2 ?_;push_cast;refine cl q1 ?_;push_cast;refine cl q3 ?_;push_cast;refine cl q1 ?_;push_cast;refine cl q4 ?_;push_cast;refine cl q5 ?_;push_cast;refine cl q6 ?_;push_cast;refine cl q7 ?_;push_cast;refine cl q8 ?_;push_cast;exact dn
end
section
open CA CB
open Go.RowKit
theorem zlA (h:(Yi (jC 4 :: l)).2 = []):0<(Yi (jC 4 :: l)).1.operands.length:=by
 have e:Yi (jC 4 :: l)=jL 4 (jC 4) (qE (X8 4) Yq [] 0 l) l:=rfl;rw[e]at h ⊢;unfold jL at h ⊢;generalize qE (X8 4) Yq [] 0 l=q at *;by_cases a:q.2.2≠[]
 ·rw[if_pos a]at h;have h:jC 4++[58,32,105,110,118,97,108,105,100,32,111,112,116,105,111,110,32]++QuotePlain.quoteL q.2.2 = []:=h;simp at h
 rw[if_neg a]at h ⊢;by_cases c:jR 4 (YK 4 q.1 58) (l.drop q.2.1)≠[]
 ·rw[if_pos c]at h;have h:jC 4++[58,32]++jR 4 (YK 4 q.1 58) (l.drop q.2.1) = []:=h;simp at h
 rw[if_neg c];show 0<(l.drop q.2.1).length;refine WI.2 fun z=>c ?_;rw[z];simp[jR]
theorem zek {l:List Lz}:(Yi (jC 4 :: l)).1.kind=4∨(Yi (jC 4 :: l)).2≠[]:=by
 have e:Yi (jC 4 :: l)=jL 4 (jC 4) (qE (X8 4) Yq [] 0 l) l:=rfl;rw[e];unfold jL;generalize qE (X8 4) Yq [] 0 l=q at *;by_cases a:q.2.2≠[]
 ·rw[if_pos a]
  right
  show jC 4++[58,32,105,110,118,97,108,105,100,32,111,112,116,105,111,110,32]++QuotePlain.quoteL q.2.2≠[];simp
 rw[if_neg a];by_cases c:jR 4 (YK 4 q.1 58) (l.drop q.2.1)≠[]
 ·rw[if_pos c]
  right
  show jC 4++[58,32]++jR 4 (YK 4 q.1 58) (l.drop q.2.1)≠[];simp
 rw[if_neg c];exact .inl rfl
structure zt5 (w:qj) (b:Lz) (l:List Lz) (c:zp5) (s:Lz):Prop where
 g:GrD 0 (Gf w)
 b:b.length<=1000
 o:c.opts.length<=1000
 n:c.operands.length<=6
 p:∀ x∈c.operands,x.length<=1000
 ne:s = []->0<c.operands.length
theorem zt5.of (h:YO w b l):zt5 w b l (Yi (jC 4 :: l)).1 (Yi (jC 4 :: l)).2:=by
 obtain ⟨p1,p2,p3⟩:=zak (jC 4 :: l);obtain ⟨d1,d2⟩:=zjl h;have h6:=h.2.2.2.2.2.2;have ht:=zcN (jC 4) l;refine ⟨zmr h.2.1 d1 (by have:=h.2.2.1;omega) (by have:=h.2.2.2.1;omega),d2,by omega,by omega,fun x hx=>?_,zlA⟩;rcases WF.1 (p3 x hx) with rfl | hx
 ·decide
 ·exact G7 h x hx
end
section
open CA CB
open Go.RowKit
theorem zaV (f:Nat->qj) (l:List OpV) (hl:l.length<=10000) (h:∀ i (hi:i<l.length),Fun Tryz.prog G0 46 [jP (f i),.agg (opL l[i])] (.tup [jP (f (i+1)),.sc (.int .i64 0)]) 0) :
  Fun Tryz.prog G0 17 [jP (f 0),.sl 5 (l.map opL),.sc (.int .i64 (l.length:Nat))] (.tup [jP (f l.length),.sc (.int .i64 (l.length:Nat)),.sc (.int .i64 0)]) 0:=by
 have hll:(l.map opL).length=l.length:=We ..;generalize hw:f 0=w;refine fof (fun i=>if i=3 then js 9 10 else []) Tryz.func17 ?_;dsimp only[Tryz.f17];push_cast;refine loop (fun i:Nat=>⟨[(1,.sl 5 (l.map opL)),(2,.sc (.int .i64 (l.length:Nat))),(3,.ptr 0 0),(6,.ptr 1 0),(9,.sc (.int .i64 i))],[Uc (f i),[.any,.any,.any,.any,.any,.any]],0,0⟩) (fun i=>i<=l.length) (fun i=>l.length-i) 0 (Wb _) ?_ ?_
 ·exact wk (h5:=by push_cast [ze,zd,CLe,zh,hw])
 intro i hi;by_cases hlt:i<l.length
 case neg =>
  have hil:i=l.length:=by omega
  rw[hil];generalize f l.length=u;push_cast [hll,Int.lt_irrefl];exact dn
 have g:(l.map opL)[i]?=some (opL l[i]):=by simp[hlt]
 have hdo:=h i hlt;generalize hu2:f (i+1)=u' at hdo;generalize hu:f i=u at hdo;generalize l[i]=o at g hdo;have hlt':=eq_true (show (i:Int)<l.length by omega);rw[G5]at g hdo;push_cast [hll,hlt',g,hu]
 repeat refine an ?_
 refine cl hdo ?_;push_cast [hll,hlt',g,hu]
 repeat refine an ?_
 exact ⟨i+1,hlt,by omega,wk (h5:=by push_cast [ze,zd,CLe,zh,hu2])⟩
theorem zlZ (o:OpV) (h:o.kind=6∨o.kind=7):Fun Tryz.prog G0 97 [.agg (opL o)] (.tup [.agg (opL (zpv o)),.sc (.bool true)]) 0:=by
 obtain ⟨k,s,a,b,d⟩:=o;rcases h with h | h
 ·have h:k=6:=h;subst h;show Fun Tryz.prog G0 97 [.agg [.sc (.int .i64 6),.sc (.int .i64 s),.str a,.str b,.str d]] (.tup [.agg [.sc (.int .i64 6),.sc (.int .i64 0),.str b,.str a,.str []],.sc (.bool true)]) 0;refine fon Tryz.func97 ?_;dsimp only[Tryz.f97];push_cast;exact dn
 ·have h:k=7:=h;subst h;show Fun Tryz.prog G0 97 [.agg [.sc (.int .i64 7),.sc (.int .i64 s),.str a,.str b,.str d]] (.tup [.agg [.sc (.int .i64 9),.sc (.int .i64 s),.str a,.str [],.str []],.sc (.bool true)]) 0;refine fon Tryz.func97 ?_;dsimp only[Tryz.f97];push_cast;exact dn
def Zd (l:List OpV):List OpV:=l.reverse.map zpv
theorem zhB (l:List OpV) (hl:l.length<=10000) (hk:∀ o∈l,o.kind=6∨o.kind=7):Fun Tryz.prog G0 49 [.sl 5 (l.map opL)] (.own 0 79 5 ((Zd l).map opL)) 1:=by
 have hll:(l.map opL).length=l.length:=We ..;have hul:(Zd l).length=l.length:=by unfold Zd;rw[We,Bq]
 refine fon Tryz.func49 ?_;dsimp only[Tryz.f49];push_cast
 repeat refine an ?_
 refine loop (fun k:Nat=>⟨[(0,.sl 5 (l.map opL)),(3,.own 0 79 5 (((Zd l).take k).map opL)),(4,.sc (.int .i64 ((l.length:Int)-1-k)))],[],1,0⟩) (fun k=>k<=l.length) (fun k=>l.length-k) 0 (Wb _) ?_ ?_
 ·exact wks [.inr (79,5)] (h4:=by push_cast [ze,zd,CLe,zh,OF,WL,hll,Int.sub_zero])
 intro k i1;by_cases hi:k<l.length
 ·have hi':=eq_true (show (0:Int)<=(l.length:Int)-1-k by omega);have hlt:l.length-1-k<l.length:=by omega
  have hx:((l.length:Int)-1-k).toNat=l.length-1-k:=by omega
  have g:(l.map opL)[l.length-1-k]?=some (opL l[l.length-1-k]):=by simp[hlt]
  have ht:(Zd l).take (k+1)=(Zd l).take k++[zpv l[l.length-1-k]]:=by
   rw[Ai (by omega)];congr 1;unfold Zd;rw[List.getElem_map,List.getElem_reverse]
  have hv:=zlZ l[l.length-1-k] (hk _ (Ww hlt));have htl:(((Zd l).take k).map opL).length=k:=by rw[We,W7];omega
  have hw:(l.length:Int)-1-((k:Int)+1)=(l.length:Int)-1-k-1:=by omega
  generalize l[l.length-1-k]=o at *;rw[G5]at g;rw[G5 o,G5 (zpv o)]at hv;push_cast [hi',hll,hx,g]
  repeat refine an ?_
  refine cl hv ?_;push_cast [hi',hll,hx,g]
  repeat refine an ?_
  exact ⟨k+1,by omega,by omega,wks [.inl 0] (h4:=by push_cast [ze,zd,CLe,zh,ht,WS,hw,G5])⟩
 ·have hi':=Wy (show ¬(0:Int)<=(l.length:Int)-1-k by omega);have hkk:k=l.length:=by omega
  have ht:(Zd l).take k=Zd l:=Wf (by omega);rw[ht];push_cast [hi'];exact ⟨[.inl 0],rfl,rfl,by push_cast [ze,zd,CLe,zh]⟩
theorem zh1 {v:qj} {l:List OpV} (h:Ql w l v) (hl:l.length<=10000):Fun Tryz.prog G0 20 [jP v,.sl 5 (l.map opL)] (.tup [jP w,.sc (.int .i64 0)]) 0:=by
 obtain ⟨f,f0,f1,f2⟩:=h;have hul:(Zd l).length=l.length:=by unfold Zd;rw[We,Bq]
 have hk:∀ o∈l,o.kind=6∨o.kind=7:=fun o ho=>by
  obtain ⟨i,hi,rfl⟩:=Wt ho;exact (f2 i hi).kind
 have h1:=zhB l hl hk;have h2:=zaV (fun i=>f (l.length-i)) (Zd l) (by omega) (fun i hi=>by
  rw[hul]at hi;have hlt:l.length-1-i<l.length:=by omega
  have hs:=(f2 _ hlt).bwd;have e:(Zd l)[i]'(by omega)=zpv l[l.length-1-i]:=by simp[Zd]
  rw[e];rw[show l.length-1-i+1=l.length-i by omega]at hs;rw[show l.length-(i+1)=l.length-1-i by omega];exact hs)
 rw[hul]at h2;simp only[Nat.sub_zero,BU]at h2;rw[f0,f1]at h2;have hml:((Zd l).map opL).length=l.length:=by rw[We,hul]
 refine fon Tryz.func20 ?_;dsimp only[Tryz.f20];push_cast;refine cl h1 ?_;push_cast [hml];refine cl h2 ?_;push_cast [hml];exact dn
theorem Ql.run {v:qj} {l:List OpV} (h:Ql w l v) (hl:l.length<=10000):Fun Tryz.prog G0 17 [jP w,.sl 5 (l.map opL),.sc (.int .i64 (l.length:Nat))] (.tup [jP v,.sc (.int .i64 (l.length:Nat)),.sc (.int .i64 0)]) 0:=by
 obtain ⟨f,f0,f1,f2⟩:=h;have:=zaV f l hl fun i hi=>(f2 i hi).fwd;rw[f0,f1]at this;exact this
theorem Ql.short {w v:qj} {l:List OpV} (h:Ql w l v):∀ o∈l,short o:=fun o ho=>by
 obtain ⟨f,f0,f1,f2⟩:=h;obtain ⟨i,hi,rfl⟩:=Wt ho;exact (f2 i hi).short
theorem yx (w:qj) (b:Lz) (l:List Lz) (hb:b.length<=2000000):Fun Tryz.prog GD 4 [jP w,.str b,.sl 1 (zV l)] (qJ true) 0:=by
 have ha:=uA;have hf:Fun Tryz.prog GD 10 _ _ 0:=(zcR w b l hb).g0;by_cases h:YO w b l
 case neg =>
  rw[Wj h]at hf;refine fof (fun i=>if i=6 then js 5 6 else []) Tryz.func4 ?_;dsimp only[Tryz.f4];push_cast;refine cl ha ?_;push_cast;refine cl hf ?_;push_cast;refine cl ha ?_;push_cast;exact dn
 rw[Wm h]at hf;have hc:Fun Tryz.prog GD 11 _ _ 1:=(zjC 4 l (by decide) (by have:=h.2.2.2.2.2.2;omega) (G7 h)).g0;have hF:=zt5.of h;have hk:=@zek l;generalize Yi (jC 4 :: l)=rc at hc hF hk;obtain ⟨⟨ck,co,cz⟩,s⟩:=rc;dsimp only at hF hc hk;have hcn:cz.length<=6:=hF.n;by_cases hs:s = []
 case neg =>
  rw[Wj hs]at hc;refine fof (fun i=>if i=6 then js 5 6 else []) Tryz.func4 ?_;dsimp only[Tryz.f4];push_cast;refine cl ha ?_;push_cast;refine cl hf ?_;push_cast;refine cl hc ?_;push_cast;exact dn
 rw[Wm hs]at hc;obtain rfl:ck=4:=hk.resolve_right (fun q=>q hs);have hC:MvC 0 (Gf w):=⟨hF.g,(Zp h.2.1.2.2.2.2.1).2,by have:=h.2.2.2.1;show Jj w.kept<=_;omega,⟨fun q=>absurd q (show ¬(0:Int)=1 by decide),fun q=>absurd q (Nat.lt_irrefl 0)⟩⟩;have hU:MvU w 0 (Gf w):=⟨.nil,fun x hx _=>.inl ⟨x,hx,rfl,rfl⟩,Wc _,Wc _,⟨fun o ho=>(by cases ho),.nil,fun s hs=>(by cases hs)⟩⟩;have q1:Fun Tryz.prog GD 13 [jP w] (GJ (Gf w)) 0:=(yy w (by have:=(zgf h.2.1).klen;omega) h.2.1.2.2.2.2.1).g0;have q2:=Z3 4 b co cz hF.g (by omega) hF.b hF.p (hF.ne hs);obtain ⟨g1,u1⟩:MvC 14 (zdV 4 b co cz (Gf w))/\MvU w (2*cz.length) (zdV 4 b co cz (Gf w)):=by
  unfold zdV;split
  ·exact ⟨(hC.tell _).mono (by omega),(hU.tell _).mono (by omega)⟩
  ·rename_i ps hps;have hzl:(cz.zip ps).length<=cz.length:=by rw[List.length_zip];omega
   obtain ⟨x1,x2⟩:=zmp (b:=b) (o:=co) (cz.zip ps) hC hU (by omega);exact ⟨x1.mono (by omega),x2.mono (by omega)⟩
 generalize zdV 4 b co cz (Gf w)=P at q2 g1 u1;have hB:=(g1.g.s (by omega)).ws;have hB0:=(hF.g.s (by omega)).ws;have hol:(P.ops.map opL).length=P.ops.length:=We ..;have hon:=u1.ops;have q3:Fun Tryz.prog GD 17 _ _ 0:=(u1.chain.run (by omega)).g0;have q4:Fun Tryz.prog GD 18 _ _ 0:=(zh5 P.ops (by omega) u1.chain.short).g0;rw[u1.plan.plan]at q4;have wsm:∀ (u:qj),v6 u->(∀ z∈u.pool,z.es.length<=9223372036854775807)->Fun Tryz.prog GD 19 [jP u,jP u] (qJ true) 0:=fun u hu hp=>by
  have:=zg4 u u (by have:=hu.fs.len;omega) (by have:=hu.pool;omega) (by have:=hu.kept;omega) (fun z hz=>by have:=(hu.fs.node z hz).1;omega) hp;rw[Wm rfl]at this;exact this.g0
 have q5:=wsm P.w hB (fun z hz=>by have:=(g1.g.b.wb.pnode z hz).1;omega);have q6:Fun Tryz.prog GD 20 _ _ 0:=(zh1 u1.chain (by omega)).g0;have q7:Fun Tryz.prog GD 21 _ _ 0:=(zkw w P.w (by have:=hB0.fs.len;show w.fs.xs.length<=_;exact WJ this (by decide)) (by have:=hB.fs.len;omega) (by have:=hB.pool;omega) u1.kept).g0;have q8:=wsm w hB0 (fun z hz=>by have:=(hF.g.b.wb.pnode z hz).1;omega);have hnl:(zr w.fs.xs).length=w.fs.xs.length:=We ..;have hnl2:(zr P.w.fs.xs).length=P.w.fs.xs.length:=We ..;have hzl:(zV cz).length=cz.length:=We ..;have f1:=Wy (show ¬(2*(cz.length:Int))<(P.ops.length:Int) by omega);have f2:=Wy (show ¬(w.fs.xs.length:Int)<(P.w.fs.xs.length:Int) by have:=u1.len;omega);clear hF hC hU g1 u1 hB hB0 wsm h;refine fof (fun i=>if i=6 then js 5 6 else []) Tryz.func4 ?_;dsimp only[Tryz.f4];push_cast;refine cl ha ?_;push_cast;refine cl hf ?_;push_cast;refine cl hc ?_;push_cast;refine cl q1 ?_;push_cast;refine cl q2 ?_;push_cast [hol];refine cl q3 ?_;push_cast;refine cl q4 ?_;push_cast [hol];refine cl q5 ?_;push_cast [hol,hzl,hnl,hnl2,f1,f2]
 repeat refine an ?_
 refine cl q6 ?_;push_cast;refine cl q7 ?_;push_cast;refine cl q8 ?_;push_cast;exact dn
end
end Go.Proofs.YtnpdbhbmakdklaaGreatDoor.Vcg
