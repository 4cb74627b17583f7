/- What the proof of MvsBelow leans on, part 6: Mvb Mvl Mvm Mvk Mvo Mbn. No condition beyond what each theorem states. -/
import Derived.Test.YtnpdbhbmakdklaaGreatDoorMvsBelowKe
set_option linter.unusedVariables false
set_option linter.unusedSimpArgs false
set_option linter.unusedSectionVars false
set_option maxRecDepth 100000
set_option maxHeartbeats 4000000
namespace Go.Proofs.YtnpdbhbmakdklaaGreatDoor.Vcg
variable {xs:List zl} {f:FsV} {N:Nat} {d:zY}
section
open CA CB
open Go.RowKit
def Jj:qN:=⟨⟨9,9,9,[⟨1,2,0,[],1,[⟨[100],3⟩,⟨[102],4⟩,⟨[103],5⟩]⟩,⟨3,2,1,[],1,[]⟩,⟨4,1,1,[122],0,[]⟩,⟨5,1,1,[121],0,[]⟩]⟩,[],[]⟩
theorem xi:okW Jj:=by decide
theorem GA:GrD 0 (Nj Jj):=zko xi (by
 intro x hx;have:∀ x∈Jj.fs.xs,x.kind=3->x.data.length<=1000:=by decide
 exact this x hx) (by decide) (by decide)
theorem xP:Fun Tryz.prog G0 31 [] (Q7 Jj) 0:=by
 have h1:=zj4 (G:=G0) 9 9;have h2:=uE (G:=G0) ⟨9,9,9,[⟨1,2,0,[],1,[]⟩]⟩ ⟨1,2,0,[],1,[⟨[100],3⟩,⟨[102],4⟩,⟨[103],5⟩]⟩ (by decide);have h3:=GF (G:=G0) ⟨9,9,9,[⟨1,2,0,[],1,[⟨[100],3⟩,⟨[102],4⟩,⟨[103],5⟩]⟩]⟩ ⟨3,2,1,[],1,[]⟩ rfl (by decide);have h4:=GF (G:=G0) ⟨9,9,9,[⟨1,2,0,[],1,[⟨[100],3⟩,⟨[102],4⟩,⟨[103],5⟩]⟩,⟨3,2,1,[],1,[]⟩]⟩ ⟨5,1,1,[121],0,[]⟩ rfl (by decide);have h5:=GF (G:=G0) ⟨9,9,9,[⟨1,2,0,[],1,[⟨[100],3⟩,⟨[102],4⟩,⟨[103],5⟩]⟩,⟨3,2,1,[],1,[]⟩,⟨5,1,1,[121],0,[]⟩]⟩ ⟨4,1,1,[122],0,[]⟩ rfl (by decide);have e2:qp ⟨1,2,0,[],1,[⟨[100],3⟩,⟨[102],4⟩,⟨[103],5⟩]⟩ [⟨1,2,0,[],1,[]⟩] = [⟨1,2,0,[],1,[⟨[100],3⟩,⟨[102],4⟩,⟨[103],5⟩]⟩]:=by decide
 have e3:qp ⟨3,2,1,[],1,[]⟩ [⟨1,2,0,[],1,[⟨[100],3⟩,⟨[102],4⟩,⟨[103],5⟩]⟩] = [⟨1,2,0,[],1,[⟨[100],3⟩,⟨[102],4⟩,⟨[103],5⟩]⟩,⟨3,2,1,[],1,[]⟩]:=by decide
 have e4:qp ⟨5,1,1,[121],0,[]⟩ [⟨1,2,0,[],1,[⟨[100],3⟩,⟨[102],4⟩,⟨[103],5⟩]⟩,⟨3,2,1,[],1,[]⟩] = [⟨1,2,0,[],1,[⟨[100],3⟩,⟨[102],4⟩,⟨[103],5⟩]⟩,⟨3,2,1,[],1,[]⟩,⟨5,1,1,[121],0,[]⟩]:=by decide
 have e5:qp ⟨4,1,1,[122],0,[]⟩ [⟨1,2,0,[],1,[⟨[100],3⟩,⟨[102],4⟩,⟨[103],5⟩]⟩,⟨3,2,1,[],1,[]⟩,⟨5,1,1,[121],0,[]⟩]=Jj.fs.xs:=by decide
 simp only[e2]at h2;simp only[e3]at h3;simp only[e4]at h4;simp only[e5]at h5;refine fon Tryz.func31 ?_;dsimp only[Tryz.f31];push_cast;refine cl h1 ?_;push_cast;refine cl h2 ?_;push_cast;refine cl h3 ?_;push_cast;refine cl h4 ?_;push_cast;refine cl h5 ?_;push_cast;exact dn (by push_cast [ze,zd,CLe,zg,Jj])
def tB:List Lz:=[[109,118,58,32,99,97,110,110,111,116,32,115,116,97,116,32,34,120,34,58,32,78,111,32,115,117,99,104,32,102,105,108,101,32,111,114,32,100,105,114,101,99,116,111,114,121]]
def tC:List Lz:=[[109,118,58,32,99,97,110,110,111,116,32,111,118,101,114,119,114,105,116,101,32,100,105,114,101,99,116,111,114,121,32,34,100,34,32,119,105,116,104,32,110,111,110,45,100,105,114,101,99,116,111,114,121,32,34,102,34]]
theorem yN:Fun Tryz.prog GD 9 [] (qZ true) 0:=by
 have q0:Fun Tryz.prog GD 31 [] (Q7 Jj) 0:=xP.g0;have q1:Fun Tryz.prog GD 13 [Q7 Jj] (HV (Nj Jj)) 0:=(ML Jj (by decide) xi.2.2.2.2.1).g0;have q2:Fun Tryz.prog GD 12 [HV (Nj Jj),.str [47],.agg [.sc (.int .i64 4),.str [],.sl 1 [[.str [102]],[.str [103]]]]] (HV (xO 4 [47] [] [[102],[103]] (Nj Jj))) 0:=Zy 4 [47] [] [[102],[103]] GA (by decide) (by decide) (by decide) (by decide);have q3:Fun Tryz.prog GD 12 [HV (Nj Jj),.str [47],.agg [.sc (.int .i64 4),.str [],.sl 1 [[.str [102]],[.str [120]],[.str [100]]]]] (HV (xO 4 [47] [] [[102],[120],[100]] (Nj Jj))) 0:=Zy 4 [47] [] [[102],[120],[100]] GA (by decide) (by decide) (by decide) (by decide);have q4:Fun Tryz.prog GD 12 [HV (Nj Jj),.str [47],.agg [.sc (.int .i64 4),.str [84],.sl 1 [[.str [102]],[.str [100]]]]] (HV (xO 4 [47] [84] [[102],[100]] (Nj Jj))) 0:=Zy 4 [47] [84] [[102],[100]] GA (by decide) (by decide) (by decide) (by decide);obtain ⟨dA,hA⟩:∃ d,xO 4 [47] [] [[102],[103]] (Nj Jj)=d:=⟨_,rfl⟩;obtain ⟨dB,hB⟩:∃ d,xO 4 [47] [] [[102],[120],[100]] (Nj Jj)=d:=⟨_,rfl⟩;obtain ⟨dC,hC⟩:∃ d,xO 4 [47] [84] [[102],[100]] (Nj Jj)=d:=⟨_,rfl⟩;have p1:dA.ops = [⟨7,1,[47,103],[],[]⟩,⟨6,0,[47,102],[47,103],[]⟩]:=by rw[←hA];kernel_rfl
 have p2:dB.ops = [⟨6,0,[47,102],[47,100,47,102],[]⟩]:=by rw[←hB];kernel_rfl
 have p3:dB.diags=tB:=by rw[←hB];kernel_rfl
 have p4:dC.diags=tC:=by rw[←hC];kernel_rfl
 rw[hA]at q2;rw[hB]at q3;rw[hC]at q4;have q5:Fun Tryz.prog GD 32 [.sl 5 (dA.ops.map opL),.sl 5 [opL ⟨7,1,[47,103],[],[]⟩,opL ⟨6,0,[47,102],[47,103],[]⟩]] (qZ true) 0:=by
  have h:=M7 dA.ops [⟨7,1,[47,103],[],[]⟩,⟨6,0,[47,102],[47,103],[]⟩] (by rw[p1];decide);rw[show J0 dA.ops [⟨7,1,[47,103],[],[]⟩,⟨6,0,[47,102],[47,103],[]⟩]=true by rw[p1];rfl]at h;exact h.g0
 have q6:Fun Tryz.prog GD 32 [.sl 5 (dB.ops.map opL),.sl 5 [opL ⟨6,0,[47,102],[47,100,47,102],[]⟩]] (qZ true) 0:=by
  have h:=M7 dB.ops [⟨6,0,[47,102],[47,100,47,102],[]⟩] (by rw[p2];decide);rw[show J0 dB.ops [⟨6,0,[47,102],[47,100,47,102],[]⟩]=true by rw[p2];rfl]at h;exact h.g0
 have q7:Fun Tryz.prog GD 16 [.sl 1 (qg dB.diags),.sl 1 (qg tB)] (qZ true) 0:=by
  have h:=ub dB.diags tB (by rw[p3];decide);rw[Wn p3]at h;exact h.g0
 have q8:Fun Tryz.prog GD 16 [.sl 1 (qg dC.diags),.sl 1 (qg tC)] (qZ true) 0:=by
  have h:=ub dC.diags tC (by rw[p4];decide);rw[Wn p4]at h;exact h.g0
 clear hA hB hC p1 p2 p3 p4;refine fon Tryz.func9 ?_;dsimp only[Tryz.f9];push_cast;refine cl q0 ?_;push_cast;refine cl q1 ?_;push_cast;refine cl q2 ?_;push_cast;refine cl q1 ?_;push_cast;refine cl q3 ?_;push_cast;refine cl q1 ?_;push_cast;refine cl q4 ?_;push_cast;refine cl q5 ?_;push_cast;refine cl q6 ?_;push_cast;refine cl q7 ?_;push_cast;refine cl q8 ?_;push_cast;exact dn
end
section
theorem Yz {n m:Lz} (h:m≠n) (es:List zO):qA zO.name m (zi n es)=qA zO.name m es:=by
 unfold zi Yt qA
 induction es with
 | nil=>rfl
 | cons e r ih =>
  rw[O8];by_cases q:e.name=n
  ·rw[if_neg (by simpa using q),ih,Ah (by rw[q];simpa using fun z=>h z.symm)]
  ·rw[if_pos (by simpa using q)];by_cases z:e.name=m
   ·rw[AA (by simpa using z),AA (by simpa using z)]
   ·rw[Ah (by simpa using z),Ah (by simpa using z),ih]
theorem ziA {x y:Int} (he:(zf x xs).es = []) (h:Bel xs x y):y=x:=by
 induction h with
 | refl=>rfl
 | step a b c ih =>
  obtain ⟨e,he2,_⟩:=c;rw[ih,he]at he2;cases he2
theorem UJ (hi:FsI f) {s:zH} (hs:zu f s) (he:(zf s.ino f.xs).es = []) {y:Int} (hh:zk y f.xs=true) (hk:(zf y f.xs).kind=2) (hy:y≠s.ino):zk y (zp f s).xs=true/\(zf y (zp f s).xs).kind=2/\(zf y (zp f s).xs).es=if y=s.dir then zi s.name (zf y f.xs).es else (zf y f.xs).es:=by
 obtain ⟨_,h2,h3,h4,h5⟩:=zdq hi hs he;by_cases q:y=s.dir
 ·subst q;rw[if_pos rfl];exact ⟨h3,h4,h5⟩
 ·rw[if_neg q];exact h2 y hh hk q fun z=>hy (ziA he z)
theorem xa (hi:FsI f) {s:zH} (hs:zu f s) (he:(zf s.ino f.xs).es = []) {ns:List Lz} {n:Int} (h:J9 f.xs ns n):n≠s.ino->J9 (zp f s).xs ns n:=by
 induction h with
 | root=>exact fun _=>.root
 | step a b c e ih =>
  rename_i ns y n m;intro hn;have hm:=(zS e).2;have hy:y≠s.ino:=fun q=>by rw[q,he]at hm;cases hm
  obtain ⟨q1,q2,q3⟩:=UJ hi hs he b c hy;refine .step (ih hy) q1 q2 ?_;rw[q3];split
  ·rename_i q;subst q;rw[Yz (fun z=>hn ?_),e];have:=hs.there;rw[←z,e]at this;exact Wu zO.ino (Option.some.inj this)
  ·exact e
theorem zbk (hi:FsI f) {s a:zH} (hs:zu f s) (he:(zf s.ino f.xs).es = []) (ha:zu f a) (hn:a.ino≠s.ino):zu (zp f s) a/\a.dir≠s.ino:=by
 have hm:=(zS ha.there).2;have hy:a.dir≠s.ino:=fun q=>by rw[q,he]at hm;cases hm
 obtain ⟨q1,q2,q3⟩:=UJ hi hs he ha.has ha.kind hy;refine ⟨⟨q1,q2,?_⟩,hy⟩;rw[q3];split
 ·rename_i q;rw[Yz (fun z=>hn ?_)]
  ·exact ha.there
  ·have h1:=ha.there;have h2:=hs.there;rw[q,z]at h1;rw[h1]at h2;exact Wu zO.ino (Option.some.inj h2)
 ·exact ha.there
theorem zfr (hi:FsI f) {s:zH} (hs:zu f s) (he:(zf s.ino f.xs).es = []):jY (zp f s) ⟨s.dir,s.name,0⟩/\s.dir≠s.ino:=by
 have hm:=(zS hs.there).2;have hy:s.dir≠s.ino:=fun q=>by rw[q,he]at hm;cases hm
 obtain ⟨q1,q2,q3⟩:=UJ hi hs he hs.has hs.kind hy;refine ⟨⟨q1,q2,?_⟩,hy⟩;show Yb s.name (zf s.dir (zp f s).xs).es=false;rw[q3,if_pos rfl];unfold Yb JB;rw[Ob];intro e he2 q;exact (qE he2).2 (by simpa using q)
theorem Xk {ns:List Lz} {x:Int} (h:J9 xs ns x):∀ {y:Int},J9 xs ns y->x=y:=by
 induction h with
 | root =>
  intro y h;rcases h.inv with ⟨_,e⟩ | ⟨ms,z,m,e,_⟩
  ·exact e.symm
  ·simp at e
 | step a b c e ih =>
  intro y h;rcases h.inv with ⟨e2,_⟩ | ⟨ms,z,m,e2,h1,h2,h3,h4⟩
  ·simp at e2
  ·obtain ⟨rfl,e3⟩:=AU e2 rfl;cases e3;have:=ih h1;subst this;rw[e]at h4;exact Wu zO.ino (Option.some.inj h4)
theorem uX {α:Type} {P:List α->Prop} (nil:P []) (snoc:∀ l x,P l->P (l++[x])) (l:List α):P l:=by
 rw[←List.reverse_reverse l]
 induction l.reverse with
 | nil=>exact nil
 | cons x r ih=>rw[List.reverse_cons];exact snoc _ _ ih
theorem ul:∀ (r A:List Lz) {n:Int},J9 xs (A++r) n->∃ y,J9 xs A y/\(r≠[]->(zf y xs).kind=2/\(zf y xs).es≠[]):=by
 intro r
 induction r using uX with
 | nil=>intro A n h;rw[W0]at h;exact ⟨n,h,fun q=>absurd rfl q⟩
 | snoc r m ih =>
  intro A n h;rw[←WE]at h;rcases h.inv with ⟨e,_⟩ | ⟨ms,z,m2,e,h1,h2,h3,h4⟩
  ·simp at e
  ·obtain ⟨rfl,_⟩:=AU e rfl;obtain ⟨y,y1,y2⟩:=ih A h1;refine ⟨y,y1,fun _=>?_⟩;by_cases hr:r = []
   ·subst hr;rw[W0]at h1;rw[Xk y1 h1];exact ⟨h3,fun q=>by have:=(zS h4).2;rw[q]at this;cases this⟩
   ·exact y2 hr
theorem zhQ {ns:List Lz} {n:Int} (h:J9 xs ns n):Dep xs ns.length n:=by
 induction h with
 | root=>exact .root
 | step a b c e ih =>
  rw[Wk,OM];exact .step ih b (zS e).2
theorem zih (hok:okM f) (hi:FsI f) (hr:FsR f) {A:List Lz} {y:Int} (hA:J9 f.xs A y):∀ (r:List Lz) {d:Int} (m:Nat),J9 f.xs (A++r) d->(zf d f.xs).kind=2->A.length+r.length<m->kX f.xs m d y=true:=by
 intro r
 induction r using uX with
 | nil =>
  intro d m h hk hm;rw[W0]at h;obtain ⟨m,rfl⟩:∃ q,m=q+1:=⟨m-1,by omega⟩;unfold kX;rw[if_pos (Xk h hA)]
 | snoc r q ih =>
  intro d m h hk hm;rw[Wk,OM]at hm;obtain ⟨m,rfl⟩:∃ q,m=q+1:=⟨m-1,by omega⟩;rw[←WE]at h;rcases h.inv with ⟨e,_⟩ | ⟨ms,z,m2,e,h1,h2,h3,h4⟩
  ·simp at e
  ·obtain ⟨rfl,_⟩:=AU e rfl;have hin:=(zS h4).2;obtain ⟨rk,hed⟩:=hr.edge;have gz:=zj h2;have hp:=(hed _ gz.2.1 _ hin hk).1;rw[gz.2.2]at hp;have hp:(zf d f.xs).parent=z:=hp;have h1d:d≠1:=jJ hok h2 hin;unfold kX;by_cases hd:d=y
   ·rw[if_pos hd]
   ·rw[if_neg hd,if_neg h1d,hp];exact ih m h1 h3 (by omega)
theorem uw (hok:okM f) (hi:FsI f) (hr:FsR f) {a t:zH} (ha:zu f a) {nA nT:List Lz} (hA:J9 f.xs nA a.dir) (hT:J9 f.xs nT t.dir) (hTh:zk t.dir f.xs=true) (hTk:(zf t.dir f.xs).kind=2)
  (ht:∀ x,qA zO.name t.name (zf t.dir f.xs).es=some ⟨t.name,x⟩->x≠a.ino/\(zf x f.xs).es = []) (hins:(zf a.ino f.xs).kind=2->kX f.xs f.xs.length t.dir a.ino=false) (vA:∀ z∈nA,may z=true) (vT:∀ z∈nT,may z=true) (ma:may a.name=true) (mt:may t.name=true) :
  JM (qq (nA++[a.name])) (qq (nT++[t.name]))=false/\JM (qq (nT++[t.name])) (qq (nA++[a.name]))=false:=by
 have nmA:∀ z∈nA++[a.name],Qi z:=fun z hz=>by
  rcases Wz.1 hz with q | q
  ·exact j8 (vA z q)
  ·rw[WY.1 q];exact j8 ma
 have nmT:∀ z∈nT++[t.name],Qi z:=fun z hz=>by
  rcases Wz.1 hz with q | q
  ·exact j8 (vT z q)
  ·rw[WY.1 q];exact j8 mt
 have hsame:nA++[a.name]≠nT++[t.name]:=fun e=>by
  obtain ⟨rfl,e2⟩:=AU e rfl;have e2:a.name=t.name:=by simpa using e2
  have hd:=Xk hA hT;have:=ha.there;rw[hd,e2]at this;exact (ht _ this).1 rfl
 rw[Xz _ _ nmA nmT,Xz _ _ nmT nmA];refine ⟨Wj fun q=>?_,Wj fun q=>?_⟩
 ·have e:nA++[a.name]=(nT++[t.name])++(nA++[a.name]).drop (nT++[t.name]).length:=by
   conv=>lhs;rw[←W2 (nT++[t.name]).length (nA++[a.name]),q]
  generalize (nA++[a.name]).drop (nT++[t.name]).length=r at e;rcases Ap r with e0 | ⟨r',x,e0⟩
  ·rw[e0,W0]at e;exact hsame e
  ·rw[e0,Aa,←WE]at e;obtain ⟨e1,_⟩:=AU e rfl;rw[e1]at hA;obtain ⟨y,y1,y2⟩:=ul r' _ hA;have hes:(zf y f.xs).es≠[]:=by
    by_cases hr':r' = []
    ·rw[hr',W0]at hA;rw[Xk y1 hA];exact fun z=>by have:=(zS ha.there).2;rw[z]at this;cases this
    ·exact (y2 hr').2
   rcases y1.inv with ⟨z,_⟩ | ⟨ms,z,m2,e2,h1,h2,h3,h4⟩
   ·simp at z
   ·obtain ⟨rfl,e3⟩:=AU e2 rfl;cases e3;rw[←Xk hT h1]at h4;exact hes (ht _ h4).2
 ·have e:nT++[t.name]=(nA++[a.name])++(nT++[t.name]).drop (nA++[a.name]).length:=by
   conv=>lhs;rw[←W2 (nA++[a.name]).length (nT++[t.name]),q]
  generalize (nT++[t.name]).drop (nA++[a.name]).length=r at e;rcases Ap r with e0 | ⟨r',x,e0⟩
  ·rw[e0,W0]at e;exact hsame e.symm
  ·rw[e0,Aa,←WE]at e;obtain ⟨e1,_⟩:=AU e rfl;have hLa:J9 f.xs (nA++[a.name]) a.ino:=.step hA ha.has ha.kind ha.there;rw[e1]at hT;have hka:(zf a.ino f.xs).kind=2:=by
    obtain ⟨y,y1,y2⟩:=ul r' _ hT;rw[Xk hLa y1];by_cases hr':r' = []
    ·rw[hr',W0]at hT;rw[Xk y1 hT];exact hTk
    ·exact (y2 hr').1
   have hlt:=uG hok (zhQ hT) hTh hTk;rw[Wk]at hlt;have:=zih hok hi hr hLa r' f.xs.length hT hTk hlt;rw[hins hka]at this;cases this
end
section
structure MvC (N:Nat) (d:zY):Prop where
 g:GrD N d
 kept:∀ k∈d.w.kept,k.slot<=d.slot
 sl:d.slot<=536870912+N
 stat:(d.status=1)↔0<d.diags.length
theorem MvC.mono {M:Nat} (h:MvC N d) (hN:N<=M):MvC M d:=⟨h.g.mono hN,h.kept,by have:=h.sl;omega,h.stat⟩
theorem zd5 (h:MvC N d) (hN:N<=3000) {s:zH} (hs:zu d.w.fs s) (he:(zf s.ino d.w.fs.xs).es = []) {p:Lz} (hp:qm p=true) (ha:atV d.w.fs p=(s,0)) :
  NK (d.slot+1) d.w.kept=false/\kY ⟨7,d.slot+1,p,[],[]⟩=true/\Xp d (HC p)=(⟨(JT d.w (d.slot+1) s).1,d.ops++[⟨7,d.slot+1,p,[],[]⟩],d.diags,d.status,d.slot+1⟩,0):=by
 have hsl:=h.g.b.slot.1;have hsm:=h.sl;have hh:=zu.ino h.g.b.wi.fs hs;have eo:Q5 d (HC p)=⟨7,d.slot+1,p,[],[]⟩:=rfl;have hm:kY ⟨7,d.slot+1,p,[],[]⟩=true:=by
  unfold kY;have e1:Vz 7=true:=rfl;have e2:zpj 7=false:=rfl;simp only[hp,e1,e2,if_true,Wp,WU];refine ⟨⟨⟨⟨⟨⟨by decide,by decide⟩,trivial⟩,by omega,by omega⟩,by simp⟩,by simp⟩,by simp⟩
 have hi:isV d.w.fs p true=(s,zf s.ino d.w.fs.xs,0):=by
  unfold isV;simp only[ha,hh];simp
 have hns:NK (d.slot+1) d.w.kept=false:=by
  unfold NK JB;rw[Ob];intro k hk q;have:=h.kept k hk;have q:k.slot=d.slot+1:=by simpa using q
  omega
 have hk0:(JT d.w (d.slot+1) s).2=0:=by unfold JT;rw[hns];rfl
 have hdo:doV d.w ⟨7,d.slot+1,p,[],[]⟩=JT d.w (d.slot+1) s:=by
  unfold doV;rw[hm];simp only[AK,W7,Oe];rw[if_neg (by decide),if_neg (by decide),if_neg (by decide),if_neg (by decide),if_neg (by decide),if_neg (by decide)];unfold qM;simp only[hi];rw[if_neg (fun q=>q rfl),if_neg (fun q=>q he)]
 refine ⟨hns,hm,?_⟩;unfold Xp;rw[if_neg (by show ¬(7:Int)<7;decide),eo,hdo,if_neg (fun q=>q hk0),if_pos (by show 0<d.slot+1;omega)]
theorem zhK (h:MvC N d) (hN:N<=3000) {s:zH} (hs:zu d.w.fs s) (he:(zf s.ino d.w.fs.xs).es = []) {p:Lz} (hp:qm p=true) (ha:atV d.w.fs p=(s,0)) :
  (Xp d (HC p)).1.w.fs=zp d.w.fs s/\MvC (N+1) (Xp d (HC p)).1/\(Xp d (HC p)).1.diags=d.diags:=by
 have hsm:=h.sl;obtain ⟨hns,_,ea⟩:=zd5 h hN hs he hp ha;have hG:=h.g.add (o:=HC p) (Wd _) (show ¬(7:Int)=3 by decide);rw[ea]at hG ⊢;have ek:(JT d.w (d.slot+1) s).1=⟨zp d.w.fs s,qF ⟨d.slot+1,s.ino,false,[]⟩ d.w.kept,if (zf s.ino d.w.fs.xs).links=1 then qp { zf s.ino d.w.fs.xs with links:=0,parent:=0 } d.w.pool else d.w.pool⟩:=by unfold JT;rw[hns];rfl
 refine ⟨by rw[ek],⟨hG,fun k hk=>?_,by show d.slot+1<=536870912+((N+1:Nat):Int);omega,h.stat⟩,rfl⟩;have hk:k∈(JT d.w (d.slot+1) s).1.kept:=hk;rw[ek]at hk;show k.slot<=d.slot+1;rcases Jp.1 hk with rfl | hk
 ·exact Ak _
 ·have:=h.kept k hk;omega
theorem zad (d:zY) {a t:zH} {p q:Lz} (hp:qm p=true) (hq:qm q=true) (hap:atV d.w.fs p=(a,0)) (htq:atV d.w.fs q=(t,0)) (ha:zk a.ino d.w.fs.xs=true) (ht:zk t.ino d.w.fs.xs=false) (u1:JM p q=false) (u2:JM q p=false) :
  Xp d (JU p q)=(⟨{ d.w with fs:=jx d.w.fs a t },d.ops++[JU p q],d.diags,d.status,d.slot⟩,0):=by
 have e:Q5 d (JU p q)=JU p q:=rfl;have hm:kY (JU p q)=true:=by
  unfold kY JU;have e1:Vz 6=false:=rfl;have e2:zpj 6=true:=rfl;simp only[hp,hq,e1,e2,u1,u2]
  rfl
 have h1:(isV d.w.fs p true).1=a/\(isV d.w.fs p true).2.2=0:=by
  unfold isV;simp only[hap,ha];simp
 have h2:(isV d.w.fs q false).1=t/\(isV d.w.fs q false).2.2=0:=by
  unfold isV;simp only[htq,ht];simp
 have hdo:doV d.w (JU p q)=({ d.w with fs:=jx d.w.fs a t },0):=by
  unfold doV;rw[hm];show JN d.w (JU p q)=_;have a1:(JU p q).a=p:=rfl;have a2:(JU p q).b=q:=rfl;unfold JN;rw[a1,a2,if_neg (fun z=>z h1.2),if_neg (fun z=>z h2.2),h1.1,h2.1]
 unfold Xp;rw[if_neg (show ¬7<(JU p q).kind by show ¬(7:Int)<6;decide),e,hdo]
 rfl
theorem zgA (h:MvC N d) (hN:N<=3000) {o v:Lz} {a t:zH} (ha:zu d.w.fs a) (hg:zb6 d.w.fs t) (hn:t.name≠[]) (hj:(mvJ d.w.fs o a t v).2=true) :
  (zcK d a t).w.fs=jx (if zk t.ino d.w.fs.xs then zp d.w.fs t else d.w.fs) a t/\MvC (N+2) (zcK d a t)/\(zcK d a t).diags=d.diags:=by
 have hi:=h.g.b.wi.fs;have hr:=h.g.r.fs;have hok:=h.g.ok (by omega);obtain ⟨j1,j2,j3⟩:=zkz hj;have ma:=Zn hr ha;obtain ⟨nA,vA,a2,lA⟩:=Nh hok ha.has ha.kind;have eA:zV d.w.fs a=qq (nA++[a.name]):=by unfold zV;rw[a2,WS,Y5 nA _ fun y hy=>(j8 (vA y hy)).1]
 have gT:zk t.dir d.w.fs.xs=true/\(zf t.dir d.w.fs.xs).kind=2/\t.ino=zK t.name (zf t.dir d.w.fs.xs).es:=hg.resolve_left hn;obtain ⟨nT,vT,t2,lT⟩:=Nh hok gT.1 gT.2.1;have eT:zV d.w.fs t=qq (nT++[t.name]):=by unfold zV;rw[t2,WS,Y5 nT _ fun y hy=>(j8 (vT y hy)).1]
 have hai:=zu.ino hi ha;have hG:=zkl h.g a t;have fin:∀ (d1:zY),MvC (N+1) d1->Xp d1 (JU (zV d.w.fs a) (zV d.w.fs t))=(⟨{ d1.w with fs:=jx d1.w.fs a t },d1.ops++[JU (zV d.w.fs a) (zV d.w.fs t)],d1.diags,d1.status,d1.slot⟩,0)->GrD (N+2) (Xp d1 (JU (zV d.w.fs a) (zV d.w.fs t))).1->MvC (N+2) (Xp d1 (JU (zV d.w.fs a) (zV d.w.fs t))).1:=fun d1 h1 e hg=>by
  rw[e]at hg ⊢;exact ⟨hg,h1.kept,by have:=h1.sl;show d1.slot<=_;omega,h1.stat⟩
 unfold zcK at hG ⊢;cases hth:zk t.ino d.w.fs.xs with
 | true =>
  obtain ⟨k1,k2,_⟩:=j1 hth;have htT:=VD hg hi hth hn;have mt:=Zn hr htT;have hu:=uw hok hi hr ha lA lT gT.1 gT.2.1 (fun x hx=>by
   have:=gT.2.2;unfold zK at this;rw[hx]at this;have this:t.ino=x:=this;rw[←this];exact ⟨fun q=>k1 q.symm,k2⟩) j3 vA vT ma mt
  rw[←eA,←eT]at hu;obtain ⟨q1,q2⟩:=Zm hok gT.1 gT.2.1 mt;have e0:(⟨t.dir,t.name,zK t.name (zf t.dir d.w.fs.xs).es⟩:zH)=t:=by rw[←gT.2.2]
  rw[e0]at q2;obtain ⟨s1,s2,s3⟩:=zhK h hN htT k2 q1 q2;rw[hth,if_pos rfl]at hG;rw[if_pos rfl,if_pos rfl];generalize (Xp d (HC (zV d.w.fs t))).1=d1 at *;have hi1:=s2.g.b.wi.fs;obtain ⟨ha1,hn1⟩:=zbk hi htT k2 ha k1;obtain ⟨hf1,hn2⟩:=zfr hi htT k2;have lA1:=xa hi htT k2 lA hn1;have lT1:=xa hi htT k2 lT hn2;rw[←s1]at ha1 hf1 lA1 lT1;obtain ⟨_,pA⟩:=U9 hi1 lA1 ha1.has ha1.kind vA ma;obtain ⟨_,pT⟩:=U9 hi1 lT1 hf1.has hf1.kind vT mt;have x1:zK a.name (zf a.dir d1.w.fs.xs).es=a.ino:=by unfold zK;rw[ha1.there]
  have x2:zK t.name (zf t.dir d1.w.fs.xs).es=0:=by
   have:=hf1.free;unfold Yb at this;rw[qh]at this;unfold zK;cases hq:qA zO.name t.name (zf t.dir d1.w.fs.xs).es with
   | none=>rfl
   | some e=>rw[hq]at this;cases this
  rw[x1,←eA]at pA;rw[x2,←eT]at pT;have hp:=(Zm hok ha.has ha.kind ma).1;have ez:zk (0:Int) d1.w.fs.xs=false:=by
   cases hq:zk (0:Int) d1.w.fs.xs with
   | false=>rfl
   | true=>exact absurd rfl (XE hi1 hq)
  have ea:=zad d1 hp q1 pA pT (zu.ino hi1 ha1) ez hu.1 hu.2;have ea:Xp d1 (JU (zV d.w.fs a) (zV d.w.fs t))=(⟨{ d1.w with fs:=jx d1.w.fs a t },d1.ops++[JU (zV d.w.fs a) (zV d.w.fs t)],d1.diags,d1.status,d1.slot⟩,0):=ea;refine ⟨by rw[ea,s1],fin d1 s2 ea hG,by rw[ea];exact s3⟩
 | false =>
  obtain ⟨mt,_⟩:=j2 hth;have h0:t.ino=0:=by
   rcases Classical.em (t.ino=0) with q | q
   ·exact q
   ·have hx:Yb t.name (zf t.dir d.w.fs.xs).es=true:=by
     unfold Yb;rw[qh];cases hq:qA zO.name t.name (zf t.dir d.w.fs.xs).es with
     | some e=>rfl
     | none=>have:=gT.2.2;unfold zK at this;rw[hq]at this;exact absurd this q
    have:=X8 hi gT.1 hx;rw[←gT.2.2,hth]at this;cases this
  have hfr:=zdX hi hg h0 mt;have hu:=uw hok hi hr ha lA lT gT.1 gT.2.1 (fun x hx=>by
   have:=hfr.free;unfold Yb at this;rw[qh,hx]at this;cases this) j3 vA vT ma mt
  rw[←eA,←eT]at hu;obtain ⟨q1,q2⟩:=Zm hok gT.1 gT.2.1 mt;have e0:(⟨t.dir,t.name,zK t.name (zf t.dir d.w.fs.xs).es⟩:zH)=t:=by rw[←gT.2.2]
  rw[e0]at q2;obtain ⟨p1,p2⟩:=Zm hok ha.has ha.kind ma;have x1:zK a.name (zf a.dir d.w.fs.xs).es=a.ino:=by unfold zK;rw[ha.there]
  rw[x1]at p2;have p2:atV d.w.fs (zV d.w.fs a)=(a,0):=p2;rw[hth,if_neg (by simp)]at hG;rw[if_neg (by simp),if_neg (by simp)];have ea:=zad d p1 q1 p2 q2 hai hth hu.1 hu.2;refine ⟨by rw[ea],fin d (h.mono (by omega)) ea hG,by rw[ea]⟩
end
section
theorem MB {α κ:Type} [DecidableEq κ] {key:α->κ} (n:κ) (xs:List α):JB key n (Yt key n xs)=false:=by
 unfold JB;rw[Ob];intro y hy;simpa using (X7.1 hy).2
theorem MG {α κ:Type} [DecidableEq κ] {o:zh7 κ} {key:α->κ} {m:κ} {x:α}:∀ {xs:List α},JB key (key x) xs=false->qA key m (Vi o key x xs)=if key x=m then some x else qA key m xs
 | [],_=>by
  show List.find? _ [x]=_;rw[OQ];by_cases h:key x=m
  ·rw[if_pos h,Wn h]
  ·rw[if_neg h,Wj h];rfl
 | y :: r,h=>by
  unfold JB at h;rw[AS,Be]at h;have hy:key y≠key x:=by simpa using h.1
  have ih:=MG (o:=o) (m:=m) (x:=x) (xs:=r) h.2;unfold Vi;split
  ·show List.find? _ (x :: y :: r)=_;rw[OQ];by_cases h:key x=m
   ·rw[if_pos h,Wn h]
   ·rw[if_neg h,Wj h];rfl
  ·unfold qA at ih ⊢;rw[OQ,OQ];by_cases q:key y=m
   ·rw[Wn q,if_neg (fun z=>hy (q.trans z.symm))]
   ·rw[Wj q];exact ih
theorem zel {n m:Lz} {i:Int} (es:List zO):qA zO.name m (zU n i es)=if n=m then some ⟨n,i⟩ else qA zO.name m es:=by
 unfold zU;rw[MG (x:=(⟨n,i⟩:zO)) (MB n es)];by_cases h:n=m
 ·rw[if_pos h,if_pos h]
 ·rw[if_neg h,if_neg h];exact Yz (fun q=>h q.symm) es
theorem zfo (n:Lz) (es:List zO):qA zO.name n (zi n es)=none:=by
 have:=MB (key:=zO.name) n es;rw[qh]at this;unfold zi;cases h:qA zO.name n (Yt zO.name n es) with
 | none=>rfl
 | some e=>rw[h]at this;cases this
theorem zo5 {a b:zH} (hi:FsI f) (ha:zu f a) (hb:jY f b) (y:Int) :
  (zf y (jx f a b).xs).es=if b.dir=y then zU b.name a.ino (if a.dir=y then zi a.name (zf y f.xs).es else (zf y f.xs).es) else if a.dir=y then zi a.name (zf y f.xs).es else (zf y f.xs).es:=by
 have hb1:zk b.dir (ql a.dir (zi a.name) f.xs)=true:=by rw[zM ha.has];exact hb.has
 have hh:zk a.ino (ql b.dir (zU b.name a.ino) (ql a.dir (zi a.name) f.xs))=true:=by rw[zM hb1,zM ha.has];exact zu.ino hi ha
 have hg:(zf y (ql b.dir (zU b.name a.ino) (ql a.dir (zi a.name) f.xs))).es=if b.dir=y then zU b.name a.ino (if a.dir=y then zi a.name (zf y f.xs).es else (zf y f.xs).es) else if a.dir=y then zi a.name (zf y f.xs).es else (zf y f.xs).es:=by
  rw[jI hb1];by_cases h1:b.dir=y
  ·rw[if_pos h1,if_pos h1,jI ha.has,h1];by_cases h2:a.dir=y
   ·rw[if_pos h2,if_pos h2,h2]
   ·rw[if_neg h2,if_neg h2]
  ·rw[if_neg h1,if_neg h1,jI ha.has];by_cases h2:a.dir=y
   ·rw[if_pos h2,if_pos h2,h2]
   ·rw[if_neg h2,if_neg h2]
 unfold jx;simp only;generalize ql b.dir (zU b.name a.ino) (ql a.dir (zi a.name) f.xs)=g at hh hg;split
 ·show (zf y (qp _ _)).es=_;rw[qD];show (if (zf a.ino g).ino=y then _ else _:zl).es=_;by_cases h3:(zf a.ino g).ino=y
  ·rw[if_pos h3,←hg,←h3,(zj hh).2.2]
  ·rw[if_neg h3];exact hg
 ·exact hg
theorem zpA {a b:zH} (hi:FsI f) (ha:zu f a) (hb:jY f b):(jx f a b).xs.length=f.xs.length:=by
 have hb1:zk b.dir (ql a.dir (zi a.name) f.xs)=true:=by rw[zM ha.has];exact hb.has
 have hh:zk a.ino (ql b.dir (zU b.name a.ino) (ql a.dir (zi a.name) f.xs))=true:=by rw[zM hb1,zM ha.has];exact zu.ino hi ha
 have hR1:zZ (ql a.dir (zi a.name) f.xs):=z7 hi.rises;have hR2:zZ (ql b.dir (zU b.name a.ino) (ql a.dir (zi a.name) f.xs)):=z7 hR1;have hl:(ql b.dir (zU b.name a.ino) (ql a.dir (zi a.name) f.xs)).length=f.xs.length:=(jP hR1 hb1).trans (jP hi.rises ha.has);unfold jx;simp only;generalize ql b.dir (zU b.name a.ino) (ql a.dir (zi a.name) f.xs)=g at *;split
 ·exact (Jo hR2 (by show zk (zf a.ino g).ino g=true;rw[(zj hh).2.2];exact hh)).trans hl
 ·exact hl
theorem vH {a b:zH} (hi:FsI f) (ha:zu f a) (hb:jY f b) (y:Int) (m:Lz) :
  qA zO.name m (zf y (jx f a b).xs).es=if b.dir=y/\b.name=m then some ⟨m,a.ino⟩ else if a.dir=y/\a.name=m then none else qA zO.name m (zf y f.xs).es:=by
 have e1:qA zO.name m (if a.dir=y then zi a.name (zf y f.xs).es else (zf y f.xs).es)=if a.dir=y/\a.name=m then none else qA zO.name m (zf y f.xs).es:=by
  by_cases h2:a.dir=y
  ·rw[if_pos h2];by_cases h3:a.name=m
   ·rw[if_pos ⟨h2,h3⟩,←h3];exact zfo _ _
   ·rw[if_neg (fun q=>h3 q.2)];exact Yz (fun q=>h3 q.symm) _
  ·rw[if_neg h2,if_neg (fun q=>h2 q.1)]
 rw[zo5 hi ha hb];by_cases h1:b.dir=y
 ·rw[if_pos h1,zel];by_cases h3:b.name=m
  ·rw[if_pos h3,if_pos ⟨h1,h3⟩,h3]
  ·rw[if_neg h3,if_neg (show ¬(b.dir=y/\b.name=m) from fun q=>h3 q.2)];exact e1
 ·rw[if_neg h1,if_neg (show ¬(b.dir=y/\b.name=m) from fun q=>h1 q.1)];exact e1
theorem zfR (hi:FsI f) (hr:FsR f) {a b:zH} (ha:zu f a) (hb:jY f b) {nA:List Lz} (hA:J9 f.xs nA a.dir) {ns:List Lz} {n:Int} (h:J9 f.xs ns n):(∀ r,ns≠nA++a.name :: r)->J9 (jx f a b).xs ns n:=by
 induction h with
 | root=>exact fun _=>.root
 | step h1 h2 h3 h4 ih =>
  rename_i ms y n m;intro hp;obtain ⟨q1,q2⟩:=Zj hi ha hb y;refine .step (ih fun r q=>hp (r++[m]) (by rw[q,WE,Om])) (by rw[q1];exact h2) (by rw[q2];exact h3) ?_;rw[vH hi ha hb,if_neg,if_neg,h4]
  ·rintro ⟨e1,e2⟩;subst e1;have:=J9.one hi hr h1 hA ha.kind;exact hp [] (by rw[this,e2])
  ·rintro ⟨e1,e2⟩;subst e1;have:=hb.free;unfold Yb at this;rw[e2,qh,h4]at this;cases this
theorem Qm {p:Lz} (h:(atV f p).2=0):jE p=true:=by
 unfold atV at h;by_cases hp:jE p=true
 ·exact hp
 ·rw[if_neg hp]at h;cases h
theorem zjy (hi:FsI f) (hr:FsR f) {a b:zH} (ha:zu f a) (hb:jY f b) {p q:Lz} (hp:qm p=true) (hq:qm q=true) (ap:atV f p=(a,0)) (aq:atV f q=(b,0)) (hu:JM q p=false) :
  (atV (jx f a b) p=(⟨a.dir,a.name,0⟩,0)/\atV (jx f a b) q=(⟨b.dir,b.name,a.ino⟩,0))/\¬Bel f.xs a.ino a.dir/\¬Bel f.xs a.ino b.dir /\
  ∃ nA nT,zn p=nA++[a.name]/\zn q=nT++[b.name]/\J9 f.xs nA a.dir/\J9 f.xs nT b.dir/\(∀ r,nT≠nA++a.name :: r)/\may a.name=true/\may b.name=true:=by
 have hmp:=Qm (f:=f) (p:=p) (by rw[ap]);have hmq:=Qm (f:=f) (p:=q) (by rw[aq]);have hu:JF q p=false:=by rw[←UW q p hmq hmp];exact hu
 have root:(1:Int)≠0->J9 f.xs [] 1/\zk 1 f.xs=true:=fun _=>⟨.root,hi.root⟩;have ea:atW f.xs (zn p) ⟨0,[],1⟩=(a,0):=by rw[←ap];unfold atV;rw[if_pos hmp]
 have eb:atW f.xs (zn q) ⟨0,[],1⟩=(b,0):=by rw[←aq];unfold atV;rw[if_pos hmq]
 have nep:zn p≠[]:=by unfold qm at hp;simp only[Wp,Ab,Oc]at hp;exact hp.2
 have neq:zn q≠[]:=by unfold qm at hq;simp only[Wp,Ab,Oc]at hq;exact hq.2
 obtain ⟨nA,l1,l2⟩:=Z0 hi (zn p) [] ⟨0,[],1⟩ root (by rw[ea]) nep;obtain ⟨nT,r1,r2⟩:=Z0 hi (zn q) [] ⟨0,[],1⟩ root (by rw[eb]) neq;rw[ea]at l1 l2;rw[eb]at r1 r2;have l1:zn p=nA++[a.name]:=l1;have r1:zn q=nT++[b.name]:=r1;have l2:J9 f.xs nA a.dir:=l2;have r2:J9 f.xs nT b.dir:=r2;have mp:∀ z∈zn p,may z=true:=by unfold jE at hmp;rw[Wp,Wt]at hmp;exact hmp.2
 have mq:∀ z∈zn q,may z=true:=by unfold jE at hmq;rw[Wp,Wt]at hmq;exact hmq.2
 have jp:=jN hmp;have jq:=jN hmq;have ma:may a.name=true:=mp _ (by rw[l1];simp);have mt:may b.name=true:=mq _ (by rw[r1];simp);have vA:∀ z∈nA,may z=true:=fun z hz=>mp z (by rw[l1];simp[hz]);have vT:∀ z∈nT,may z=true:=fun z hz=>mq z (by rw[r1];simp[hz]);have pre:∀ r,nT≠nA++a.name :: r:=fun r e=>by
  have:JF q p=true:=by
   unfold JF;rw[WU,r1,l1,e];have:nA++a.name :: r++[b.name]=(nA++[a.name])++(r++[b.name]):=by simp
   rw[this,Bf]
  rw[hu]at this;cases this
 have preA:∀ r,nA≠nA++a.name :: r:=fun r e=>by
  have:=Wu List.length e;simp at this
 have la:J9 f.xs (nA++[a.name]) a.ino:=.step l2 ha.has ha.kind ha.there;have b1:¬Bel f.xs a.ino a.dir:=fun q=>by
  obtain ⟨r,e⟩:=Bel.lead hi hr la q l2 ha.kind;rw[WE]at e;exact preA r e
 have b2:¬Bel f.xs a.ino b.dir:=fun q=>by
  obtain ⟨r,e⟩:=Bel.lead hi hr la q r2 hb.kind;rw[WE]at e;exact pre r e
 have mi:=vS hi ha hb;obtain ⟨x1,x2⟩:=Zj hi ha hb a.dir;obtain ⟨y1,y2⟩:=Zj hi ha hb b.dir;obtain ⟨_,kA⟩:=U9 mi (zfR hi hr ha hb l2 l2 preA) (by rw[x1];exact ha.has) (by rw[x2];exact ha.kind) vA ma;obtain ⟨_,kT⟩:=U9 mi (zfR hi hr ha hb l2 r2 pre) (by rw[y1];exact hb.has) (by rw[y2];exact hb.kind) vT mt;rw[←l1,jp]at kA;rw[←r1,jq]at kT;have fA:zK a.name (zf a.dir (jx f a b).xs).es=0:=by
  unfold zK;rw[vH hi ha hb,if_neg,if_pos ⟨rfl,rfl⟩];rintro ⟨e1,e2⟩;have:=hb.free;unfold Yb at this;rw[e1,e2,qh,ha.there]at this;cases this
 have fT:zK b.name (zf b.dir (jx f a b).xs).es=a.ino:=by
  unfold zK;rw[vH hi ha hb,if_pos ⟨rfl,rfl⟩]
 rw[fA]at kA;rw[fT]at kT;exact ⟨⟨kA,kT⟩,b1,b2,nA,nT,l1,r1,l2,r2,pre,ma,mt⟩
theorem znQ {f:FsV} {follow:Bool} {lk:zl->zl->Xe->Bool->zH×Int}:∀ (l:Xe) (s:zH),(∀ n∈l,may n=true)->(atW f.xs l s).2=0->(follow=true->(zf (atW f.xs l s).1.ino f.xs).kind≠3)->onL f follow lk l s false=atW f.xs l s
 | [],s,_,_,_=>by unfold onL atW;rw[if_neg (fun q=>by cases q.2.1)]
 | n :: r,s,hn,h0,hf=>by
  have hm:=hn n Wi;have d1:n≠[46]:=fun q=>by rw[q]at hm;cases hm
  have d2:n≠[46,46]:=fun q=>by rw[q]at hm;cases hm
  unfold atW at h0 hf ⊢;unfold onL;by_cases h1:s.ino=0
  ·rw[if_pos h1]at h0;cases h0
  rw[if_neg h1]at h0 hf;by_cases h2:(zf s.ino f.xs).kind≠2
  ·rw[if_pos h2]at h0;cases h0
  rw[if_neg h2]at h0 hf;rw[if_neg h1,if_neg h2,if_neg d1,if_neg d2,if_neg h1,if_neg h2];have ih:=znQ (f:=f) (follow:=follow) (lk:=lk) r ⟨(zf s.ino f.xs).ino,n,zK n (zf s.ino f.xs).es⟩ (fun z hz=>hn z (Wl _ hz)) h0 hf;rw[if_pos]
  ·exact ih
  ·cases r with
   | nil =>
    by_cases hw:follow=true
    ·exact .inr (.inl (by have:=hf hw;unfold atW at this;exact this))
    ·exact .inr (.inr ⟨rfl,by simpa using hw,rfl⟩)
   | cons m r =>
    refine .inr (.inl fun q=>?_);unfold atW at h0;by_cases h3:zK n (zf s.ino f.xs).es=0
    ·rw[if_pos h3]at h0;cases h0
    rw[if_neg h3,if_pos (by show (zf (zK n (zf s.ino f.xs).es) f.xs).kind≠2;rw[q];decide)]at h0;cases h0
theorem x4 (b:Lz) {p:Lz} {follow:Bool} (h:(atV f p).2=0) (hn:(atV f p).1.name≠[]) (hl:p.length<=4095) (hf:follow=true->(zf (atV f p).1.ino f.xs).kind≠3):zL f b p follow=atV f p/\qm p=true/\jm p=false:=by
 have hp:=Qm h;have hm:∀ n∈zn p,may n=true:=by
  unfold jE at hp;rw[Wp,Wt]at hp;exact hp.2
 have e:atV f p=atW f.xs (zn p) ⟨0,[],1⟩:=by unfold atV;rw[if_pos hp]
 have hne:zn p≠[]:=fun q=>by rw[e,q]at hn;exact hn rfl
 have hj:=jN hp;have hpp:p=47 :: Lib.join (zn p) [47]:=by
  conv=>lhs;rw[←hj]
  unfold qq;rw[if_neg hne]
 have hs:jm p=false:=by
  have:=ze4 true (zn p) false fun z hz=>j8 (hm z hz);have e2:put true (zn p) false=p:=by
   conv=>rhs;rw[hpp]
   unfold put;simp
  rw[e2]at this;exact this
 refine ⟨?_,by unfold qm;rw[hp];simp[hne],hs⟩;unfold zL;have h1:p≠[]:=fun q=>by rw[hpp]at q;cases q
 have h2:¬Zw p=true:=fun q=>by
  unfold Zw at q;rw[On]at q;rcases q with q | q
  ·rw[Ou]at q;obtain ⟨x,hx,q⟩:=q;have:=hm x hx;unfold may at this;simp only[Wp,WU]at this q;omega
  ·simp only[WU]at q;omega
 have h3:xG p=true:=by unfold xG;rw[hpp];rfl
 rw[if_neg h1,if_neg h2,if_pos h3,Ht,hs,e];rw[e]at h hf;exact znQ (zn p) ⟨0,[],1⟩ hm h hf
end
section
theorem zgt {f:FsV} (hi:FsI f) (hr:FsR f) {o:Int}:∀ (m:Nat) {d:Int} {nd:List Lz},J9 f.xs nd d->zk d f.xs=true->(zf d f.xs).kind=2->kX f.xs m d o=true->∃ A r,nd=A++r/\J9 f.xs A o
 | 0,d,nd,_,_,_,h=>by cases h
 | m+1,d,nd,h1,h2,h3,h=>by
  unfold kX at h;by_cases e:d=o
  ·subst e;exact ⟨nd,[],by simp,h1⟩
  rw[if_neg e]at h;by_cases e1:d=1
  ·rw[if_pos e1]at h;cases h
  rw[if_neg e1]at h;rcases h1.inv with ⟨_,q⟩ | ⟨ms,y,k,rfl,g0,g1,g2,g3⟩
  ·exact absurd q e1
  ·obtain ⟨rk,hed⟩:=hr.edge;have gy:=zj g1;have hp:=(hed _ gy.2.1 _ (zS g3).2 h3).1;rw[gy.2.2]at hp;have hp:(zf d f.xs).parent=y:=hp;rw[hp]at h;obtain ⟨A,r,rfl,hA⟩:=zgt hi hr m g0 g1 g2 h;exact ⟨A,r++[k],by rw[WE],hA⟩
theorem uJ {f:FsV} (hi:FsI f) {a b:zH} (ha:zu f a) (hb:jY f b) (n1:¬Bel f.xs a.ino a.dir) (n2:¬Bel f.xs a.ino b.dir):∀ (m:Nat) (y:Int) (q:Lz),Bel f.xs a.ino y->ja (jx f a b).xs m y q=ja f.xs m y q
 | 0,y,q,_=>rfl
 | m+1,y,q,h=>by
  have e1:(zf y (jx f a b).xs).es=(zf y f.xs).es:=by
   rw[zo5 hi ha hb,if_neg,if_neg]
   ·rintro rfl;exact n1 h
   ·rintro rfl;exact n2 h
  unfold ja;rw[(Zj hi ha hb y).1,e1];by_cases hh:zk y f.xs=true
  ·rw[if_pos hh,if_pos hh];refine Wu _ ?_;have:∀ e∈(zf y f.xs).es,ja (jx f a b).xs m e.ino (Jf q e.name)=ja f.xs m e.ino (Jf q e.name):=fun e he=>uJ hi ha hb n1 n2 m e.ino _ (.step h hh ⟨e,he,rfl⟩);exact JL this
  ·rw[if_neg hh,if_neg hh]
structure zsB (f:FsV) (a t:zH) (p q:Lz) (g:FsV):Prop where
 i:FsI g
 lead:atV g q=(⟨t.dir,t.name,a.ino⟩,0)
 gone:(jl g p).2=1
 len:g.xs.length=f.xs.length
 below:∀ m,ja g.xs m a.ino q=ja f.xs m a.ino q
theorem vc (d:zY) (o:OpV):(Xp d o).1.status=d.status:=by
 unfold Xp;split
 ·rfl
 ·split
  ·rfl
  ·rfl
theorem zm0 (h:MvC N d) (hN:N<=2000) {p q:Lz} {a t:zH} (ap:atV d.w.fs p=(a,0)) (aq:atV d.w.fs q=(t,0)) (h1:a.ino≠0) (h2:a.name≠[]) (h3:t.ino=0) (h4:t.name≠[]) (hu:JF q p=false) (lp:p.length<=1000) (lq:q.length<=1000) :
  MvC (N+2) (xO 4 [47] [] [p,q] d)/\(xO 4 [47] [] [p,q] d).status=d.status/\zsB d.w.fs a t p q (xO 4 [47] [] [p,q] d).w.fs:=by
 have hi:=h.g.b.wi.fs;have hr:=h.g.r.fs;have z0:zk (0:Int) d.w.fs.xs=false:=by
  cases hq:zk (0:Int) d.w.fs.xs with
  | false=>rfl
  | true=>exact absurd rfl (XE hi hq)
 have hp:(atV d.w.fs p).2=0:=by rw[ap]
 have hq:(atV d.w.fs q).2=0:=by rw[aq]
 obtain ⟨sp,pp,_⟩:=x4 (follow:=false) [47] hp (by rw[ap];exact h2) (by omega) (fun q=>by cases q);obtain ⟨sq,pq,sl⟩:=x4 (follow:=false) [47] hq (by rw[aq];exact h4) (by omega) (fun q=>by cases q);obtain ⟨sq2,_,_⟩:=x4 (follow:=true) [47] hq (by rw[aq];exact h4) (by omega) (fun _ z=>by rw[aq,h3,(j4 z0).2]at z;cases z);obtain ⟨a1,a2,a3,_⟩:=zea hi pp hp;rw[ap]at sp a1 a2 a3;rw[aq]at sq sq2;have hha:zk a.ino d.w.fs.xs=true:=by
  have hx:Yb a.name (zf a.dir d.w.fs.xs).es=true:=by
   unfold Yb;rw[qh];cases hq:qA zO.name a.name (zf a.dir d.w.fs.xs).es with
   | some e=>rfl
   | none=>unfold zK at a3;rw[hq]at a3;exact absurd a3 h1
  rw[a3];exact X8 hi a1 hx
 have hn:zk t.ino d.w.fs.xs=false:=by rw[h3];exact z0
 have ta:zu d.w.fs a:=by
  have:=(jB hi pp (by unfold isV;simp[ap,hha])).1;unfold isV at this;rw[ap]at this;exact this
 have tb:jY d.w.fs t:=by
  have:=JZ hi pq (by unfold isV;simp[aq,hn]);unfold isV at this;rw[aq]at this;exact this
 have up:JM q p=false:=by rw[UW q p (Qm hq) (Qm hp)];exact hu
 obtain ⟨⟨kA,kT⟩,b1,b2,nA,nT,l1,r1,l2,r2,pre,ma,mt⟩:=zjy hi hr ta tb pp pq ap aq up;have la:J9 d.w.fs.xs (nA++[a.name]) a.ino:=.step l2 ta.has ta.kind ta.there;have hins:(zf a.ino d.w.fs.xs).kind=2->kX d.w.fs.xs d.w.fs.xs.length t.dir a.ino=false:=fun hk=>by
  cases hq:kX d.w.fs.xs d.w.fs.xs.length t.dir a.ino with
  | false=>rfl
  | true =>
   obtain ⟨A,r,e,hA⟩:=zgt hi hr _ r2 tb.has tb.kind hq;rw[J9.one hi hr hA la hk,WE]at e;exact absurd e (pre r)
 have es:mvS d.w.fs [47] p q=none:=by
  unfold mvS;rw[sp,sq,if_neg (fun z=>z rfl),if_neg (by rw[hha];decide),if_neg h2,if_neg (fun z=>z rfl),if_neg h4]
 have ej:mvJ d.w.fs [] a t q=((0,0),true):=by
  unfold mvJ;rw[hn,if_neg (fun z=>by cases z.1),if_neg (fun z=>by cases z.1),if_neg (fun z=>by rw[hins z.1]at z;cases z.2),if_neg (by decide),if_neg (fun z=>by rw[sl]at z;cases z.1),if_neg (by rw[mt];decide)]
 have e0:xO 4 [47] [] [p,q] d=zcK d a t:=by
  have e1:j0 d.w.fs [47] 4 [] [p,q]=some [q]:=by
   have hd:ZM d.w.fs [47] q=false:=by
    unfold ZM;rw[sq2,h3,(j4 z0).2,An];exact .inr rfl
   unfold j0;rw[if_neg (show ¬[p,q].length=1 by simp),if_neg,if_pos (show [p,q].length=2 from rfl)]
   ·rfl
   ·unfold zcx;show ¬(_&&ZM d.w.fs [47] q)=true;rw[hd,O6];decide
  unfold xO;rw[e1];show Va [47] [] d p q=_;unfold Va;rw[es];simp only;rw[sp,sq,ej,if_pos rfl]
 have hg:zb6 d.w.fs t:=.inr ⟨tb.has,tb.kind,by
  rw[h3];unfold zK;have:=tb.free;unfold Yb at this;rw[qh]at this;cases hq:qA zO.name t.name (zf t.dir d.w.fs.xs).es with
  | none=>rfl
  | some e=>rw[hq]at this;cases this⟩
 obtain ⟨g1,g2,g3⟩:=zgA (o:=[]) (v:=q) h (by omega) ta hg h4 (by rw[ej]);rw[hn,if_neg (by decide)]at g1;have st:(zcK d a t).status=d.status:=by
  unfold zcK;rw[hn,if_neg (by decide),vc]
 rw[e0];refine ⟨g2,st,?_⟩;rw[g1];refine ⟨vS hi ta tb,kT,?_,zpA hi ta tb,fun m=>uJ hi ta tb b1 b2 m _ _ .refl⟩;unfold jl;rw[kA,if_neg (fun z=>z rfl),if_pos rfl]
end
section
open CA CB
open Go.RowKit
theorem UX (h:okM f) {q:Lz} (hq:jE q=true) (m:Nat) (n:Int):(ja f.xs m n q).length<=20000000:=by
 have hm:∀ z∈zn q,may z=true:=by unfold jE at hq;rw[Wp,Wt]at hq;exact hq.2
 have:=HG h m n (zn q) (fun y hy=>(j8 (hm y hy)).1);rw[jN hq]at this;rw[this,We];have:=uN h m n (zn q);omega
theorem okM.mid (h:okM f):zr9 f.xs:=⟨by have:=h.1.1;omega,fun x hx=>by obtain ⟨a,b,c⟩:=h.1.2 x hx;exact ⟨a,by omega,c⟩⟩
theorem xk (w:qN) (p q:Lz):Fun Tryz.prog GD 5 [Q7 w,.str p,.str q] (qZ true) 0:=by
 have ha:=yN;have hf:Fun Tryz.prog GD 10 _ _ 0:=(zaL w [47] [p,q] (by decide)).g0;by_cases h:YK w [47] [p,q]
 case neg =>
  rw[Wj h]at hf;refine fon Tryz.func5 ?_;dsimp only[Tryz.f5];push_cast;refine cl ha ?_;push_cast;refine cl hf ?_;push_cast;refine cl ha ?_;push_cast;exact dn
 rw[Wn h]at hf;have lp:=Vp h p (by simp);have lq:=Vp h q (by simp);obtain ⟨d1,d2⟩:=ziX h;have hG:GrD 0 (Nj w):=zko h.2.1 d1 (by have:=h.2.2.1;omega) (by have:=h.2.2.2.1;omega);have hC:MvC 0 (Nj w):=⟨hG,(QZ h.2.1.2.2.2.2.1).2,by have:=h.2.2.2.1;show Ja w.kept<=_;omega,⟨fun q=>absurd q (show ¬(0:Int)=1 by decide),fun q=>absurd q (Nat.lt_irrefl 0)⟩⟩;have hS:=(hG.s (by omega)).ws.fs;have q1:Fun Tryz.prog GD 22 _ _ 0:=(Nf w.fs hG.b.wi.fs hS p (by omega)).g0;have q2:Fun Tryz.prog GD 22 _ _ 0:=(Nf w.fs hG.b.wi.fs hS q (by omega)).g0;have q3:Fun Tryz.prog GD 23 _ _ 0:=(Mn q p (by omega) (by omega)).g0;have q4:Fun Tryz.prog GD 13 [Q7 w] (HV (Nj w)) 0:=(ML w (by have:=(zdU h.2.1).klen;omega) h.2.1.2.2.2.2.1).g0;have q5:=Zy 4 [47] [] [p,q] hG (by show 0+2*2+2<=_;decide) (by decide) (Vp h) (by show 0<2;decide);have hlaw:=fun (a t:zH) (e1:atV w.fs p=(a,0)) (e2:atV w.fs q=(t,0)) h1 h2 h3 h4 hu=>zm0 (d:=Nj w) hC (by decide) (a:=a) (t:=t) e1 e2 h1 h2 h3 h4 hu lp lq;refine fon Tryz.func5 ?_;dsimp only[Tryz.f5];push_cast;refine cl ha ?_;push_cast;refine cl hf ?_;push_cast;refine cl q1 ?_;push_cast;refine cl q2 ?_;push_cast;clear ha hf q1 q2;generalize hA:atV w.fs p=A at *;generalize hT:atV w.fs q=T at *;obtain ⟨a,e⟩:=A;obtain ⟨t,g⟩:=T;dsimp only;by_cases c1:e=0
 case neg =>
  have c1':=WH c1;push_cast [c1'];exact dn
 by_cases c2:g=0
 case neg =>
  have c1':=eq_true c1;have c2':=WH c2;push_cast [c1',c2'];exact dn
 by_cases c3:a.ino=0
 case pos =>
  have c1':=eq_true c1;have c2':=eq_true c2;have c3':=eq_true c3;push_cast [c1',c2',c3'];exact dn
 by_cases c4:a.name = []
 case pos =>
  have c1':=eq_true c1;have c2':=eq_true c2;have c3':=WH c3;have c4':=eq_true c4;push_cast [c1',c2',c3',c4'];exact dn
 by_cases c5:t.ino=0
 case neg =>
  have c1':=eq_true c1;have c2':=eq_true c2;have c3':=WH c3;have c4':=WH c4;have c5':=WH c5;push_cast [c1',c2',c3',c4',c5'];exact dn
 by_cases c6:t.name = []
 case pos =>
  have c1':=eq_true c1;have c2':=eq_true c2;have c3':=WH c3;have c4':=WH c4;have c5':=eq_true c5;have c6':=eq_true c6;push_cast [c1',c2',c3',c4',c5',c6'];exact dn
 have c1':=eq_true c1;have c2':=eq_true c2;have c3':=WH c3;have c4':=WH c4;have c5':=eq_true c5;have c6':=WH c6;push_cast [c1',c2',c3',c4',c5',c6'];cases hu:JF q p with
 | true =>
  rw[hu]at q3;refine cl q3 ?_;push_cast;exact dn
 | false =>
  rw[hu]at q3;subst c1 c2;obtain ⟨g1,g2,g3⟩:=hlaw a t rfl rfl c3 c4 c5 c6 hu;have hpq:jE q=true:=Qm (f:=w.fs) (by rw[hT]);have hok:=hG.ok (by omega);clear hlaw;generalize xO 4 [47] [] [p,q] (Nj w)=P at q5 g1 g2 g3;have g2:P.status=0:=g2;have hok2:=g1.g.ok (by omega);have hS2:=(g1.g.s (by omega)).ws.fs;have q6:Fun Tryz.prog GD 22 _ _ 0:=(Nf P.w.fs g3.i hS2 q (by omega)).g0;rw[g3.lead]at q6;have q7:Fun Tryz.prog GD 24 _ _ 0:=(za7 P.w.fs g3.i hS2 p (by omega)).g0;rw[g3.gone]at q7;have hnl:(zx P.w.fs.xs).length=P.w.fs.xs.length:=We ..;have hl2:=hok2.1.1;have q8:=kV (G:=GD) P.w.fs hok2.mid (P.w.fs.xs.length+1) a.ino q (by omega) (by omega) (UX hok2 hpq _ _);have q9:=kV (G:=GD) w.fs hok.mid (P.w.fs.xs.length+1) a.ino q (by omega) (by omega) (UX hok hpq _ _);rw[show (((P.w.fs.xs.length+1:Nat):Int)-1)=(P.w.fs.xs.length:Int) by omega]at q8 q9;have eb:ja P.w.fs.xs (P.w.fs.xs.length+1) a.ino q=ja w.fs.xs (P.w.fs.xs.length+1) a.ino q:=g3.below _;have hbl:(ja w.fs.xs (P.w.fs.xs.length+1) a.ino q).length<=20000000:=UX hok hpq (P.w.fs.xs.length+1) a.ino;rw[eb]at q8;generalize ja w.fs.xs (P.w.fs.xs.length+1) a.ino q=X at *;have q10:=zhq (G:=GD) X X (by omega) (by omega);rw[Wn rfl]at q10;refine cl q3 ?_;push_cast;refine cl q4 ?_;push_cast;refine cl q5 ?_;push_cast;refine cl q6 ?_;push_cast;refine cl q7 ?_;push_cast [hnl,g2];refine cl q8 ?_;push_cast [hnl];refine cl q9 ?_;push_cast;refine cl q10 ?_;push_cast;exact dn
end
end Go.Proofs.YtnpdbhbmakdklaaGreatDoor.Vcg
