/- What the proof of CpsTree leans on, part 6. No condition beyond what each theorem states. -/
import Derived.Test.YtnpdbhbmakdklaaGreatDoorCpsTreeKe
set_option linter.unusedVariables false
set_option linter.unusedSimpArgs false
set_option linter.unusedSectionVars false
set_option maxRecDepth 100000
set_option maxHeartbeats 4000000
namespace Go.Proofs.YtnpdbhbmakdklaaGreatDoor.Vcg
variable {N:Nat} {d:zF} {xs:List zl} {ns:List Lz} {f g:FsV}
section
open CA CB
open Go.RowKit
section
variable (k:Int) (o:Lz) (ops:List Lz) (b:Lz)
abbrev zmE (d:zF) (u pl v:Lz) (x:zl) (d':zF):Prop:=Zb Tryz.prog GD 103 [.ptr 0 0,.agg (ldL u pl v x ldZ)] [Y2 d k o ops b] 0 (.tup []) [Y2 d' k o ops b] 0
theorem zim (y:zl) (hb:b.length<=100000) {d:zF} {u pl v:Lz} {x:zl} (D:Nat->zF) (pre:zeU b d u pl v x) (fre:zpX b d v) (hins:vB d.w.fs.xs d.w.fs.xs.length (zr d.w.fs b v false).1.dir x.ino=false)
  (h0:(jP d ⟨1,0,yp b d v,[],[]⟩).2=0) (hD:D 0=(jP d ⟨1,0,yp b d v,[],[]⟩).1) (hDG:∀ i,i<=x.es.length->∃ N,GrD N (D i)/\N<=3000)
  (ih:∀ i (h:i<x.es.length),zmE k o ops b (D i) (Yx u x.es[i].name) (Yx pl x.es[i].name) (Yx v x.es[i].name) (zf x.es[i].ino (D i).w.fs.xs) (D (i+1))) :
  Zb Tryz.prog GD 150 [.ptr 0 0,.agg (ldL u pl v x (ldT y (zr d.w.fs b v false).1 false))] [Y2 d k o ops b] 0 (.tup []) [Y2 (D x.es.length) k o ops b] 0:=by
 obtain ⟨N,hG,hN⟩:=pre.g;have hs:=(hG.b.s (by omega)).ws.fs;have c1:=(Gy d.w.fs hG.b.wi.fs hs (zr d.w.fs b v false).1.dir x.ino).g0 (G':=GD);rw[hins]at c1;have hpl:=UV (hG.ok (by omega)) fre.has fre.kind fre.may;have c2:=V9 d k o ops b u pl v x y (zr d.w.fs b v false).1 false fre.may fre.slash pre.lv 22 0;have c3:=u0 d k o ops b u pl v x y (zr d.w.fs b v false).1 false (hG.ok (by omega)) fre.has fre.kind fre.may;have c4:=UN d k o ops b u pl v x y (zr d.w.fs b v false).1 false 22 ⟨1,0,yp b d v,[],[]⟩ (hG.b.s (by omega)) ⟨by show (qu d.w.fs (zr d.w.fs b v false).1).length<=_;omega,Wd _,Wd _⟩ (Wd _) h0;rw[←hD]at c4;have hes:=pre.es;have hlu:=pre.lu;have hlp:=pre.lp;have hlv:=pre.lv;have hll:(zO x.es).length=x.es.length:=We ..;clear pre fre hins h0 hD hpl hG hs;unfold yp at c4;generalize qu d.w.fs (zr d.w.fs b v false).1=q at *;generalize (zr d.w.fs b v false).1=s at *;unfold opL at c4;obtain ⟨xi,xk,xl,xd,xp,xe⟩:=x;dsimp only at *;refine foB (fun i=>if i=7 then Hq [(0,.pure),(1,.pure),(2,.pure),(3,.pure),(4,.pure),(5,.pure),(6,.bar),(7,.pure),(8,.pure),(9,.pure),(10,.pure),(11,.pure),(12,.pure),(13,.flt [9,10]),(14,.pure),(15,.bar),(16,.pure),(17,.pure),(18,.pure),(19,.pure)] else if i=11 then JJ 12 13 else if i=12 then [false,false,false,false,false,false,false,false,false,false,false,false,false,false,false,false,false,false,true] else []) Tryz.func150 ?_;dsimp only[Tryz.f150];push_cast;refine cl c1 ?_;push_cast;refine zcL [.row (Y2 d k o ops b),.agg (ldL u pl v ⟨xi,xk,xl,xd,xp,xe⟩ (ldT y s false)),.sc (.int .i64 22),.sc (.int .i64 0)] c2 rfl (VP d k o ops b u pl v ⟨xi,xk,xl,xd,xp,xe⟩ y s false 22 0 rfl) ?_;push_cast;refine zgi [0] c3 (by decide) (by simp) (by push_cast) (by push_cast) (fun r bx' m hp=>?_);obtain ⟨rfl,rfl,rfl⟩:=hp;push_cast;refine Yz [0] [] c4 rfl (by decide) (by decide) (by simp) (by push_cast) (by push_cast) ?_;push_cast [hll]
 refine loop (fun i:Nat=>⟨[(0,.ptr 0 0),(3,.ptr 1 0),(4,.ptr 2 0),(88,.sl 2 (zO xe)),(89,.sc (.int .i64 xe.length)),(90,.sc (.int .i64 i))],[Y2 (D i) k o ops b,ldL u pl v ⟨xi,xk,xl,xd,xp,xe⟩ (ldT y s false),fsC d.w.fs],0,0⟩) (fun i=>i<=xe.length) (fun i=>xe.length-i) 0 (Wd _) ?_ ?_
 ·exact wk (h4:=by push_cast [ze,zd,CLe,zh,hll])
 intro i hi;by_cases hlt:i<xe.length
 ·have hlt':=eq_true (show (i:Int)<xe.length by omega);have hg:(zO xe)[i]?=some [.str xe[i].name,.sc (.int .i64 xe[i].ino)]:=by simp[zO,hlt]
  obtain ⟨M,hM,hM2⟩:=hDG i hi;have c5:=qr (G:=GD) (D i).w.fs xe[i].ino (by have:=(hM.b.s (by omega)).ws.fs.len;omega) hM.b.wi.fs.rises;have hn:=hes.2 _ (Wz hlt);have j1:=(ZH u xe[i].name (by omega) (by omega)).g0 (G':=GD);have j2:=(ZH pl xe[i].name (by omega) (by omega)).g0 (G':=GD);have j3:=(ZH v xe[i].name (by omega) (by omega)).g0 (G':=GD);have c6:=ih i hlt;generalize xe[i]=e at *;generalize Yx u e.name=u2 at *;generalize Yx pl e.name=p2 at *;generalize Yx v e.name=v2 at *;generalize hD2:D (i+1)=D2 at *;generalize D i=D1 at *;generalize zf e.ino D1.w.fs.xs=X at *;push_cast [hlt',hg,At]
  repeat refine an ?_
  refine cl c5 ?_;push_cast;refine cl j1 ?_;push_cast;refine cl j2 ?_;push_cast;refine cl j3 ?_;push_cast;refine Yz [0] [] c6 rfl (by decide) (by decide) (by simp) (by push_cast) (by push_cast) ?_;push_cast
  repeat refine an ?_
  exact ⟨i+1,by omega,by omega,wk (h5:=by push_cast [ze,zd,CLe,zh,hD2])⟩
 ·have hil:i=xe.length:=by omega
  subst hil;push_cast [Int.lt_irrefl];exact ⟨[],rfl,rfl,by push_cast [ze,zd,CLe,zh],by push_cast [ze,zd,CLe,zh]⟩
theorem zet (y:zl) {d:zF} {u pl v:Lz} {x:zl} (pre:zeU b d u pl v x) (hins:vB d.w.fs.xs d.w.fs.xs.length (zr d.w.fs b v false).1.dir x.ino=true) (hu:u.length<=3000) (hv:v.length<=3000) :
  Zb Tryz.prog GD 150 [.ptr 0 0,.agg (ldL u pl v x (ldT y (zr d.w.fs b v false).1 false))] [Y2 d k o ops b] 0 (.tup []) [Y2 (JL d (JU 5 19 u v 0)) k o ops b] 0:=by
 obtain ⟨N,hG,hN⟩:=pre.g;have hs:=(hG.b.s (by omega)).ws.fs;have c1:=(Gy d.w.fs hG.b.wi.fs hs (zr d.w.fs b v false).1.dir x.ino).g0 (G':=GD);rw[hins]at c1;have c2:=zcV d k o ops b u pl v x y (zr d.w.fs b v false).1 false (by have:=hG.b.diags;omega) hu hv 19 0;clear pre hins hG hs;generalize JL d (JU 5 19 u v 0)=d' at *;generalize (zr d.w.fs b v false).1=s at *;refine foB (fun i=>if i=7 then Hq [(0,.pure),(1,.pure),(2,.pure),(3,.pure),(4,.pure),(5,.pure),(6,.bar),(7,.pure),(8,.pure),(9,.pure),(10,.pure),(11,.pure),(12,.pure),(13,.flt [9,10]),(14,.pure),(15,.bar),(16,.pure),(17,.pure),(18,.pure),(19,.pure)] else if i=11 then JJ 12 13 else if i=12 then [false,false,false,false,false,false,false,false,false,false,false,false,false,false,false,false,false,false,true] else []) Tryz.func150 ?_;dsimp only[Tryz.f150];push_cast;refine cl c1 ?_;push_cast;refine Yz [0] [] c2 rfl (by decide) (by decide) (by simp) (by push_cast) (by push_cast) ?_;push_cast;exact ⟨[],rfl,rfl,by push_cast [ze,zd,CLe,zh],by push_cast [ze,zd,CLe,zh]⟩
theorem U5 (hb:b.length<=100000) {d d':zF} {u pl v:Lz} {x:zl} (pre:zeU b d u pl v x) (hk:x.kind=2)
  (hf:Zb Tryz.prog GD 150 [.ptr 0 0,.agg (ldL u pl v x (ldT (zf (zr d.w.fs b v false).1.ino d.w.fs.xs) (zr d.w.fs b v false).1 (zk (zr d.w.fs b v false).1.ino d.w.fs.xs)))] [Y2 d k o ops b] 0 (.tup []) [Y2 d' k o ops b] 0):zmE k o ops b d u pl v x d':=by
 obtain ⟨N,hG,hN⟩:=pre.g;have hs:=(hG.b.s (by omega)).ws.fs;have c1:=(Jv d.w.fs hG.b.wi.fs hG.r.fs hs hG.dat b v false hb pre.lv).g0 (G':=GD);rw[pre.ok]at c1;have c2:=qr (G:=GD) d.w.fs (zr d.w.fs b v false).1.ino (by have:=hs.len;omega) hG.b.wi.fs.rises;clear pre hG hs;generalize (zr d.w.fs b v false).1=s at *;generalize zf s.ino d.w.fs.xs=y at *;generalize zk s.ino d.w.fs.xs=th at *;obtain ⟨xi,xk,xl,xd,xp,xe⟩:=x;dsimp only at hk;subst hk;refine foB (fun i=>if i=4 then JJ 11 12 else []) Tryz.func103 ?_;dsimp only[Tryz.f103];push_cast [VV,Q0,H8,WX,Wu,Om,W8,reduceIte,Int.reduceEq];refine cl c1 ?_;push_cast [VV,Q0,H8,WX,Wu,Om,W8,reduceIte,Int.reduceEq];refine cl c2 ?_;push_cast;refine Yz [0] [] hf rfl (by decide) (by decide) (by simp) (by push_cast) (by push_cast) ?_;push_cast;exact ⟨[],rfl,rfl,by push_cast [ze,zd,CLe,zh],by push_cast [ze,zd,CLe,zh]⟩
theorem Ho (hb:b.length<=100000) {d d':zF} {u pl v:Lz} {x:zl} (pre:zeU b d u pl v x) (hk:x.kind=1)
  (hf:Zb Tryz.prog GD 151 [.ptr 0 0,.agg (ldL u pl v x (ldT (zf (zr d.w.fs b v false).1.ino d.w.fs.xs) (zr d.w.fs b v false).1 (zk (zr d.w.fs b v false).1.ino d.w.fs.xs)))] [Y2 d k o ops b] 0 (.tup []) [Y2 d' k o ops b] 0):zmE k o ops b d u pl v x d':=by
 obtain ⟨N,hG,hN⟩:=pre.g;have hs:=(hG.b.s (by omega)).ws.fs;have c1:=(Jv d.w.fs hG.b.wi.fs hG.r.fs hs hG.dat b v false hb pre.lv).g0 (G':=GD);rw[pre.ok]at c1;have c2:=qr (G:=GD) d.w.fs (zr d.w.fs b v false).1.ino (by have:=hs.len;omega) hG.b.wi.fs.rises;clear pre hG hs;generalize (zr d.w.fs b v false).1=s at *;generalize zf s.ino d.w.fs.xs=y at *;generalize zk s.ino d.w.fs.xs=th at *;obtain ⟨xi,xk,xl,xd,xp,xe⟩:=x;dsimp only at hk;subst hk;refine foB (fun i=>if i=4 then JJ 11 12 else []) Tryz.func103 ?_;dsimp only[Tryz.f103];push_cast [VV,Q0,H8,WX,Wu,Om,W8,reduceIte,Int.reduceEq];refine cl c1 ?_;push_cast [VV,Q0,H8,WX,Wu,Om,W8,reduceIte,Int.reduceEq];refine cl c2 ?_;push_cast;refine Yz [0] [] hf rfl (by decide) (by decide) (by simp) (by push_cast) (by push_cast) ?_;push_cast;exact ⟨[],rfl,rfl,by push_cast [ze,zd,CLe,zh],by push_cast [ze,zd,CLe,zh]⟩
theorem y6 (hb:b.length<=100000) {d d':zF} {u pl v:Lz} {x:zl} (pre:zeU b d u pl v x) (hk:x.kind=3)
  (hf:Zb Tryz.prog GD 152 [.ptr 0 0,.agg (ldL u pl v x (ldT (zf (zr d.w.fs b v false).1.ino d.w.fs.xs) (zr d.w.fs b v false).1 (zk (zr d.w.fs b v false).1.ino d.w.fs.xs)))] [Y2 d k o ops b] 0 (.tup []) [Y2 d' k o ops b] 0):zmE k o ops b d u pl v x d':=by
 obtain ⟨N,hG,hN⟩:=pre.g;have hs:=(hG.b.s (by omega)).ws.fs;have c1:=(Jv d.w.fs hG.b.wi.fs hG.r.fs hs hG.dat b v false hb pre.lv).g0 (G':=GD);rw[pre.ok]at c1;have c2:=qr (G:=GD) d.w.fs (zr d.w.fs b v false).1.ino (by have:=hs.len;omega) hG.b.wi.fs.rises;clear pre hG hs;generalize (zr d.w.fs b v false).1=s at *;generalize zf s.ino d.w.fs.xs=y at *;generalize zk s.ino d.w.fs.xs=th at *;obtain ⟨xi,xk,xl,xd,xp,xe⟩:=x;dsimp only at hk;subst hk;refine foB (fun i=>if i=4 then JJ 11 12 else []) Tryz.func103 ?_;dsimp only[Tryz.f103];push_cast [VV,Q0,H8,WX,Wu,Om,W8,reduceIte,Int.reduceEq];refine cl c1 ?_;push_cast [VV,Q0,H8,WX,Wu,Om,W8,reduceIte,Int.reduceEq];refine cl c2 ?_;push_cast;refine Yz [0] [] hf rfl (by decide) (by decide) (by simp) (by push_cast) (by push_cast) ?_;push_cast;exact ⟨[],rfl,rfl,by push_cast [ze,zd,CLe,zh],by push_cast [ze,zd,CLe,zh]⟩
theorem zeK (hb:b.length<=100000) {d d':zF} {u pl v:Lz} {x:zl} (h:CpI b o d u pl v x d'):zmE k o ops b d u pl v x d':=by
 induction h with
 | file pre fre hk h0 =>
  obtain ⟨N,hG,hN⟩:=pre.g;refine Ho k o ops b hb pre hk ?_;rw[fre.not];exact zhx _ k o ops b _ _ _ _ hG hN _ pre.lp pre.lv _ fre.has fre.kind fre.may fre.slash h0
 | link pre fre hk h0 =>
  obtain ⟨N,hG,hN⟩:=pre.g;refine y6 k o ops b hb pre hk ?_;rw[fre.not];exact zhg _ k o ops b _ _ _ _ hG hN _ pre.data pre.lv _ fre.has fre.kind fre.may fre.slash h0
 | dir D pre fre hk hins h0 hD hDG _ ih =>
  refine U5 k o ops b hb pre hk ?_;rw[fre.not];exact zim k o ops b _ hb D pre fre hins h0 hD hDG ih
 | self pre hk hn hins hu hv =>
  refine U5 k o ops b hb pre hk ?_;rw[hn];exact zet k o ops b _ pre hins hu hv
 | over pre hk hh h1 h2 h3 h4 h5 h6 h7 h8 h0 =>
  refine Ho k o ops b hb pre hk ?_;rw[hh];exact zc0 _ k o ops b _ _ _ _ _ _ _ (ze3 _ k o ops b _ _ _ _ pre.g hb _ _ pre.lp pre.lv h1 h2 h3 h4 h5 h6 h7 h8 h0)
end
end
section
open CA CB
open Go.RowKit
section
variable (k:Int) (o:Lz) (ops:List Lz) (b:Lz)
theorem un (hb:b.length<=100000) {d d':zF} {u v:Lz} (h:CpS b o d u v d') :
  Zb Tryz.prog GD 56 [.ptr 0 0,.str u,.str v] [Y2 d k o ops b] 0 (.tup []) [Y2 d' k o ops b] 0:=by
 have c0:=(kE k o (.sl 1 (qj ops)) 114 rfl).g0 (G':=GD);have cP:=(kE k o (.sl 1 (qj ops)) 80 rfl).g0 (G':=GD);cases h with
 | shut hg hu hv h1 h2 h3 h4 =>
  obtain ⟨N,hG,hN⟩:=hg;have hs:=(hG.b.s (by omega)).ws.fs;have c1:=(Jv d.w.fs hG.b.wi.fs hG.r.fs hs hG.dat b u (YT o) hb (by omega)).g0 (G':=GD);have c2:=qr (G:=GD) d.w.fs (zr d.w.fs b u (YT o)).1.ino (by have:=hs.len;omega) hG.b.wi.fs.rises;rw[h1]at c1;rw[h2]at c2;rw[Wi h4]at c0;generalize (zr d.w.fs b u (YT o)).1=T at *;generalize zf T.ino d.w.fs.xs=X at *;have c3:=zc6 d k o ops b u [] v X (by have:=hG.b.diags;omega) hu hv 16 0;generalize JL d (JU 5 16 u v 0)=d' at *;have k3:=eq_true h3;by_cases hP:(80:UInt8)∈o
  ·rw[show YT o=false by unfold YT;rw[Wi h4,Wl hP];rfl]at c1;rw[Wl hP]at cP;refine foB (fun i=>if i=2 then JJ 20 21 else []) Tryz.func56 ?_;dsimp only[Tryz.f56];push_cast;refine cl c0 ?_;push_cast;refine cl cP ?_;push_cast;refine cl c1 ?_;push_cast;refine cl c2 ?_;push_cast [k3];refine Yz [0] [] c3 rfl (by decide) (by decide) (by simp) (by push_cast) (by push_cast) ?_;push_cast;exact ⟨[],rfl,rfl,by push_cast [ze,zd,CLe,zh],by push_cast [ze,zd,CLe,zh]⟩
  ·rw[show YT o=true by unfold YT;rw[Wi h4,Wi hP];rfl]at c1;rw[Wi hP]at cP;refine foB (fun i=>if i=2 then JJ 20 21 else []) Tryz.func56 ?_;dsimp only[Tryz.f56];push_cast;refine cl c0 ?_;push_cast;refine cl cP ?_;push_cast;refine cl c1 ?_;push_cast;refine cl c2 ?_;push_cast [k3];refine Yz [0] [] c3 rfl (by decide) (by decide) (by simp) (by push_cast) (by push_cast) ?_;push_cast;exact ⟨[],rfl,rfl,by push_cast [ze,zd,CLe,zh],by push_cast [ze,zd,CLe,zh]⟩
 | tree hg hu h1 h2 h3 h4 hI =>
  obtain ⟨N,hG,hN⟩:=hg;have hs:=(hG.b.s (by omega)).ws.fs;have hok:=hG.ok (by omega);have c1:=(Jv d.w.fs hG.b.wi.fs hG.r.fs hs hG.dat b u (YT o) hb (by omega)).g0 (G':=GD);have c2:=qr (G:=GD) d.w.fs (zr d.w.fs b u (YT o)).1.ino (by have:=hs.len;omega) hG.b.wi.fs.rises;have c3:=(Hc d.w.fs (zr d.w.fs b u (YT o)).1.ino _ (zd7 hok) (uN hok 1 [] (by decide) (by decide))).g0 (G':=GD);have c4:=zeK k o ops b hb hI;have e5:=(zi h2).2.2;unfold zmE at c4;rw[h1]at c1;rw[h2]at c2;rw[Wl h4]at c0;rw[show YT o=false by unfold YT;rw[Wl h4];rfl]at *;clear hI;generalize (zr d.w.fs b u false).1=T at *;generalize (XR T.ino (trV d.w.fs.xs 1 [])).isSome=z at *;generalize (XR T.ino (trV d.w.fs.xs 1 [])).getD []=pl at *;rw[←e5]at c3;generalize zf T.ino d.w.fs.xs=X at *;have k3:=eq_true h3;refine foB (fun i=>if i=2 then JJ 20 21 else []) Tryz.func56 ?_;dsimp only[Tryz.f56];push_cast;refine cl c0 ?_;push_cast;refine cl c1 ?_;push_cast;refine cl c2 ?_;push_cast [k3];refine cl c3 ?_;push_cast;refine Yz [0] [] c4 rfl (by decide) (by decide) (by simp) (by push_cast) (by push_cast) ?_;push_cast;exact ⟨[],rfl,rfl,by push_cast [ze,zd,CLe,zh],by push_cast [ze,zd,CLe,zh]⟩
 | leaf hg hu h1 h2 h3 h5 h6 h7 hI =>
  obtain ⟨N,hG,hN⟩:=hg;have hs:=(hG.b.s (by omega)).ws.fs;have hok:=hG.ok (by omega);have c1:=(Jv d.w.fs hG.b.wi.fs hG.r.fs hs hG.dat b u (YT o) hb (by omega)).g0 (G':=GD);have c2:=qr (G:=GD) d.w.fs (zr d.w.fs b u (YT o)).1.ino (by have:=hs.len;omega) hG.b.wi.fs.rises;have c3:=(ZV d.w.fs hok (zr d.w.fs b u (YT o)).1 h5 h6 h7).g0 (G':=GD);have c4:=zeK k o ops b hb hI;unfold zmE at c4;rw[h1]at c1;rw[h2]at c2;clear hI;generalize (zr d.w.fs b u (YT o)).1=T at *;generalize qu d.w.fs T=pl at *;generalize zf T.ino d.w.fs.xs=X at *;have k3:=WG h3;by_cases hr:(114:UInt8)∈o
  ·rw[show YT o=false by unfold YT;rw[Wl hr];rfl]at c1;rw[Wl hr]at c0;refine foB (fun i=>if i=2 then JJ 20 21 else []) Tryz.func56 ?_;dsimp only[Tryz.f56];push_cast;refine cl c0 ?_;push_cast;refine cl c1 ?_;push_cast;refine cl c2 ?_;push_cast [k3];refine cl c3 ?_;push_cast;refine Yz [0] [] c4 rfl (by decide) (by decide) (by simp) (by push_cast) (by push_cast) ?_;push_cast;exact ⟨[],rfl,rfl,by push_cast [ze,zd,CLe,zh],by push_cast [ze,zd,CLe,zh]⟩
  rw[Wi hr]at c0;by_cases hP:(80:UInt8)∈o
  ·rw[show YT o=false by unfold YT;rw[Wi hr,Wl hP];rfl]at c1;rw[Wl hP]at cP;refine foB (fun i=>if i=2 then JJ 20 21 else []) Tryz.func56 ?_;dsimp only[Tryz.f56];push_cast;refine cl c0 ?_;push_cast;refine cl cP ?_;push_cast;refine cl c1 ?_;push_cast;refine cl c2 ?_;push_cast [k3];refine cl c3 ?_;push_cast;refine Yz [0] [] c4 rfl (by decide) (by decide) (by simp) (by push_cast) (by push_cast) ?_;push_cast;exact ⟨[],rfl,rfl,by push_cast [ze,zd,CLe,zh],by push_cast [ze,zd,CLe,zh]⟩
  ·rw[show YT o=true by unfold YT;rw[Wi hr,Wi hP];rfl]at c1;rw[Wi hP]at cP;refine foB (fun i=>if i=2 then JJ 20 21 else []) Tryz.func56 ?_;dsimp only[Tryz.f56];push_cast;refine cl c0 ?_;push_cast;refine cl cP ?_;push_cast;refine cl c1 ?_;push_cast;refine cl c2 ?_;push_cast [k3];refine cl c3 ?_;push_cast;refine Yz [0] [] c4 rfl (by decide) (by decide) (by simp) (by push_cast) (by push_cast) ?_;push_cast;exact ⟨[],rfl,rfl,by push_cast [ze,zd,CLe,zh],by push_cast [ze,zd,CLe,zh]⟩
theorem Xs {d':zF} {u w v:Lz} (hG:GrD N d) (hN:N<=2000) (hb:b.length<=1000) (hu:u.length<=1000) (hw:w.length<=1000) (hP:Yi d.w.fs b k o [u,w]=some [v]) (h:CpS b o d u v d') :
  Fun Tryz.prog GD 29 [HE d,.str b,.agg (zoK k o [u,w])] (HE d') 0:=by
 have hS:=(hG.b.s (by omega)).ws.fs;have hpl:=(zbQ d.w.fs hG.b.wi.fs hG.r.fs hS hG.dat b (by omega) k o [u,w] (by show 2<=_;decide) (by
  intro x hx;rcases WJ.1 hx with rfl | hx
  ·exact hu
  ·rw[WT.1 hx];exact hw)).g0 (G':=GD)
 rw[hP]at hpl;simp only[W9,AT]at hpl;have hs:=un k o [u,w] b (by omega) h;clear h hP hS hG;refine fof (fun i=>if i=3 then [false,false,false,false,false,false,false,false,false,false,false,false,true] else []) Tryz.func29 ?_;dsimp only[Tryz.f29];push_cast;refine cl hpl ?_;push_cast;refine loop (fun q:Nat=>⟨[(1,.str b),(3,.ptr 0 0),(5,.ptr 1 0),(6,.ptr 2 0),(9,.ptr 3 0),(40,.sl 1 [[.str v]]),(41,.sc (.int .i64 1)),(42,.sc (.int .i64 q))],[zrH d,zoK k o [u,w],QA,Y2 (if q=0 then d else d') k o [u,w] b],0,0⟩) (fun q=>q<=1) (fun q=>1-q) 0 (Wd _) ?_ ?_
 ·exact wk
 intro q hq;rcases Wp q 1 with h1 | h1
 ·have:q=0:=by omega
  subst this;push_cast;refine Yz [3] [] hs rfl (by decide) (by decide) (by simp) (by push_cast) (by push_cast) ?_;push_cast;exact ⟨1,by omega,by omega,wk⟩
 ·have:q=1:=by omega
  subst this;push_cast;exact dn
end
end
section
open CA CB
open Go.RowKit
end
section
open CA CB
open Go.RowKit
def Xi (w:qH) (b:Lz) (l:List Lz):Prop:=(∀ x∈l.take 20,x.length<=1000)/\okW w/\w.fs.next<549755813888/\Jr w.kept<536870912/\ZU w.fs b []=true/\jK b=true/\l.length<=6
instance (w:qH) (b:Lz) (l:List Lz):Decidable (Xi w b l):=by unfold Xi;infer_instance
theorem zbn (w:qH) (b:Lz) (l:List Lz) (hb:b.length<=2000000):Fun Tryz.prog G0 10 [Xm w,.str b,.sl 1 (qj l)] (jb (decide (Xi w b l))) 0:=by
 have hll:(qj l).length=l.length:=We ..;have hpl:=Us b hb;unfold Y8 at hpl;have hok:=zej w;have hsh:=zdf w.fs b [];refine fon Tryz.func10 ?_;dsimp only[Tryz.f10];push_cast;refine cl hpl ?_;push_cast;refine loop (fun i:Nat=>⟨[(1,.str b),(2,.sl 1 (qj l)),(3,.ptr 0 0),(8,.sc (.bool (jK b))),(9,.sc (.int .i64 i))],[N8 w],0,0⟩) (fun i=>i<=l.length/\i<=20/\∀ x∈l.take i,x.length<=1000) (fun i=>l.length-i) 0 ⟨Wd _,Wd _,fun x hx=>by rw[Ow]at hx;cases hx⟩ ?_ ?_
 ·exact wk
 rintro i ⟨h1,h2,h3⟩;by_cases hi:i<l.length
 ·have hi':=eq_true (show (i:Int)<l.length by omega);by_cases h20:i<20
  ·have h20':=eq_true (show (i:Int)<20 by omega);have hgi:(qj l)[i]?=some [.str l[i]]:=by simp[qj,hi]
   have ht:l.take (i+1)=l.take i++[l[i]]:=Aw hi;by_cases hx:l[i].length<=1000
   ·have hx':=WG (show ¬(1000:Int)<l[i].length by omega);push_cast [hi',h20',hgi,hll,hx',At]
    repeat refine an ?_
    exact ⟨i+1,⟨by omega,by omega,fun x hm=>by
     rw[ht]at hm;rcases WB.1 hm with hm | hm
     ·exact h3 x hm
     ·rw[WT.1 hm];exact hx⟩,by omega,wk⟩
   ·have hx':=eq_true (show (1000:Int)<l[i].length by omega);have hn:¬Xi w b l:=fun h=>hx (h.1 _ (Az.2 ⟨i,by omega,rfl⟩));push_cast [hi',h20',hgi,hll,hx',At]
    repeat refine an ?_
    exact dn (by push_cast [ze,zd,CLe,zh,hn])
  ·have h20':=WG (show ¬(i:Int)<20 by omega);have hx:∀ x∈l.take 20,x.length<=1000:=by rw[show i=20 by omega]at h3;exact h3
   by_cases k1:okW w
   case neg =>
    have hn:¬Xi w b l:=fun h=>k1 h.2.1;rw[Wi k1]at hok;push_cast [hi',h20',hll];refine cl hok ?_;push_cast;exact dn (by push_cast [ze,zd,CLe,zh,hn])
   rw[Wl k1]at hok;have hs:=k1.2.2.2.2.1;have hla:=U2 (G:=G0) w (by have:=(No k1).klen;omega) hs.1 hs.2;by_cases k2:w.fs.next<549755813888
   case neg =>
    have hn:¬Xi w b l:=fun h=>k2 h.2.2.1;have k2':=WG k2;push_cast [hi',h20',hll];refine cl hok ?_;push_cast [k2'];exact dn (by push_cast [ze,zd,CLe,zh,hn])
   have k2':=eq_true k2;by_cases k3:Jr w.kept<536870912
   case neg =>
    have hn:¬Xi w b l:=fun h=>k3 h.2.2.2.1;have k3':=WG k3;push_cast [hi',h20',hll];refine cl hok ?_;push_cast [k2'];refine cl hla ?_;push_cast [k3'];exact dn (by push_cast [ze,zd,CLe,zh,hn])
   have k3':=eq_true k3;cases k4:ZU w.fs b []
   case false =>
    have hn:¬Xi w b l:=fun h=>by rw[h.2.2.2.2.1]at k4;cases k4
    rw[k4]at hsh;push_cast [hi',h20',hll];refine cl hok ?_;push_cast [k2'];refine cl hla ?_;push_cast [k3'];refine cl hsh ?_;push_cast;exact dn (by push_cast [ze,zd,CLe,zh,hn])
   rw[k4]at hsh;cases k5:jK b
   case false =>
    have hn:¬Xi w b l:=fun h=>by rw[h.2.2.2.2.2.1]at k5;cases k5
    push_cast [hi',h20',hll];refine cl hok ?_;push_cast [k2'];refine cl hla ?_;push_cast [k3'];refine cl hsh ?_;push_cast;exact dn (by push_cast [ze,zd,CLe,zh,hn])
   by_cases k6:l.length<=6
   ·have hn:Xi w b l:=⟨hx,k1,k2,k3,k4,k5,k6⟩;have k6':=eq_true (show (l.length:Int)<=6 by omega);push_cast [hi',h20',hll];refine cl hok ?_;push_cast [k2'];refine cl hla ?_;push_cast [k3'];refine cl hsh ?_;push_cast [hll,k6'];exact dn (by push_cast [ze,zd,CLe,zh,hn])
   ·have hn:¬Xi w b l:=fun h=>k6 h.2.2.2.2.2.2;have k6':=WG (show ¬(l.length:Int)<=6 by omega);push_cast [hi',h20',hll];refine cl hok ?_;push_cast [k2'];refine cl hla ?_;push_cast [k3'];refine cl hsh ?_;push_cast [hll,k6'];exact dn (by push_cast [ze,zd,CLe,zh,hn])
 ·have hi':=WG (show ¬(i:Int)<l.length by omega);have hx:∀ x∈l.take 20,x.length<=1000:=by
   rw[show i=l.length by omega,Oi]at h3;exact fun x hm=>h3 x (Ww hm)
  by_cases k1:okW w
  case neg =>
   have hn:¬Xi w b l:=fun h=>k1 h.2.1;rw[Wi k1]at hok;push_cast [hi',hll];refine cl hok ?_;push_cast;exact dn (by push_cast [ze,zd,CLe,zh,hn])
  rw[Wl k1]at hok;have hs:=k1.2.2.2.2.1;have hla:=U2 (G:=G0) w (by have:=(No k1).klen;omega) hs.1 hs.2;by_cases k2:w.fs.next<549755813888
  case neg =>
   have hn:¬Xi w b l:=fun h=>k2 h.2.2.1;have k2':=WG k2;push_cast [hi',hll];refine cl hok ?_;push_cast [k2'];exact dn (by push_cast [ze,zd,CLe,zh,hn])
  have k2':=eq_true k2;by_cases k3:Jr w.kept<536870912
  case neg =>
   have hn:¬Xi w b l:=fun h=>k3 h.2.2.2.1;have k3':=WG k3;push_cast [hi',hll];refine cl hok ?_;push_cast [k2'];refine cl hla ?_;push_cast [k3'];exact dn (by push_cast [ze,zd,CLe,zh,hn])
  have k3':=eq_true k3;cases k4:ZU w.fs b []
  case false =>
   have hn:¬Xi w b l:=fun h=>by rw[h.2.2.2.2.1]at k4;cases k4
   rw[k4]at hsh;push_cast [hi',hll];refine cl hok ?_;push_cast [k2'];refine cl hla ?_;push_cast [k3'];refine cl hsh ?_;push_cast;exact dn (by push_cast [ze,zd,CLe,zh,hn])
  rw[k4]at hsh;cases k5:jK b
  case false =>
   have hn:¬Xi w b l:=fun h=>by rw[h.2.2.2.2.2.1]at k5;cases k5
   push_cast [hi',hll];refine cl hok ?_;push_cast [k2'];refine cl hla ?_;push_cast [k3'];refine cl hsh ?_;push_cast;exact dn (by push_cast [ze,zd,CLe,zh,hn])
  by_cases k6:l.length<=6
  ·have hn:Xi w b l:=⟨hx,k1,k2,k3,k4,k5,k6⟩;have k6':=eq_true (show (l.length:Int)<=6 by omega);push_cast [hi',hll];refine cl hok ?_;push_cast [k2'];refine cl hla ?_;push_cast [k3'];refine cl hsh ?_;push_cast [hll,k6'];exact dn (by push_cast [ze,zd,CLe,zh,hn])
  ·have hn:¬Xi w b l:=fun h=>k6 h.2.2.2.2.2.2;have k6':=WG (show ¬(l.length:Int)<=6 by omega);push_cast [hi',hll];refine cl hok ?_;push_cast [k2'];refine cl hla ?_;push_cast [k3'];refine cl hsh ?_;push_cast [hll,k6'];exact dn (by push_cast [ze,zd,CLe,zh,hn])
end
section
theorem zj9 {w:qH} {b:Lz} {l:List Lz} (h:Xi w b l):HC w.fs.xs/\b.length<=1000:=by
 have hs:=h.2.2.2.2.1;have hl:=(No h.2.1).len;unfold ZU at hs;simp only[Wo,WR,OY,Oh]at hs;obtain ⟨⟨h1,h2⟩,_⟩:=hs;rw[Wg (by omega)]at h1;refine ⟨fun x hx hk=>?_,by omega⟩;have:=h1 x hx;unfold UD at this;simp only[Wo,WR,not_and]at this;have:=this hk;omega
theorem Gr {w:qH} {b:Lz} {l:List Lz} (h:Xi w b l):∀ x∈l,x.length<=1000:=by
 have h1:=h.1;rw[Wg (by have:=h.2.2.2.2.2.2;omega)]at h1;exact h1
end
section
open CA CB
open Go.RowKit
def qf:qH:=⟨⟨9,9,9,[⟨1,2,0,[],1,[⟨[100],3⟩,⟨[103],5⟩]⟩,⟨3,2,1,[],1,[⟨[102],4⟩]⟩,⟨4,1,1,[122],0,[]⟩,⟨5,1,1,[121],0,[]⟩]⟩,[],[]⟩
theorem ym:okW qf:=by decide
theorem Jh:GrD 0 (J7 qf):=zlr ym (by
 intro x hx;have:∀ x∈qf.fs.xs,x.kind=3->x.data.length<=1000:=by decide
 exact this x hx) (by decide) (by decide)
theorem vc:Fun Tryz.prog G0 55 [] (Xm qf) 0:=by
 have h1:=zhV (G:=G0) 9 9;have h2:=GO (G:=G0) ⟨9,9,9,[⟨1,2,0,[],1,[]⟩]⟩ ⟨1,2,0,[],1,[⟨[100],3⟩,⟨[103],5⟩]⟩ (by decide);have h3:=GO (G:=G0) ⟨9,9,9,[⟨1,2,0,[],1,[⟨[100],3⟩,⟨[103],5⟩]⟩]⟩ ⟨3,2,1,[],1,[⟨[102],4⟩]⟩ (by decide);have h4:=zal (G:=G0) ⟨9,9,9,[⟨1,2,0,[],1,[⟨[100],3⟩,⟨[103],5⟩]⟩,⟨3,2,1,[],1,[⟨[102],4⟩]⟩]⟩ ⟨5,1,1,[121],0,[]⟩ rfl (by decide);have h5:=zal (G:=G0) ⟨9,9,9,[⟨1,2,0,[],1,[⟨[100],3⟩,⟨[103],5⟩]⟩,⟨3,2,1,[],1,[⟨[102],4⟩]⟩,⟨5,1,1,[121],0,[]⟩]⟩ ⟨4,1,1,[122],0,[]⟩ rfl (by decide);have e2:qo ⟨1,2,0,[],1,[⟨[100],3⟩,⟨[103],5⟩]⟩ [⟨1,2,0,[],1,[]⟩] = [⟨1,2,0,[],1,[⟨[100],3⟩,⟨[103],5⟩]⟩]:=by decide
 have e3:qo ⟨3,2,1,[],1,[⟨[102],4⟩]⟩ [⟨1,2,0,[],1,[⟨[100],3⟩,⟨[103],5⟩]⟩] = [⟨1,2,0,[],1,[⟨[100],3⟩,⟨[103],5⟩]⟩,⟨3,2,1,[],1,[⟨[102],4⟩]⟩]:=by decide
 have e4:qo ⟨5,1,1,[121],0,[]⟩ [⟨1,2,0,[],1,[⟨[100],3⟩,⟨[103],5⟩]⟩,⟨3,2,1,[],1,[⟨[102],4⟩]⟩] = [⟨1,2,0,[],1,[⟨[100],3⟩,⟨[103],5⟩]⟩,⟨3,2,1,[],1,[⟨[102],4⟩]⟩,⟨5,1,1,[121],0,[]⟩]:=by decide
 have e5:qo ⟨4,1,1,[122],0,[]⟩ [⟨1,2,0,[],1,[⟨[100],3⟩,⟨[103],5⟩]⟩,⟨3,2,1,[],1,[⟨[102],4⟩]⟩,⟨5,1,1,[121],0,[]⟩]=qf.fs.xs:=by decide
 simp only[e2]at h2;simp only[e3]at h3;simp only[e4]at h4;simp only[e5]at h5;refine fon Tryz.func55 ?_;dsimp only[Tryz.f55];push_cast;refine cl h1 ?_;push_cast;refine cl h2 ?_;push_cast;refine cl h3 ?_;push_cast;refine cl h4 ?_;push_cast;refine cl h5 ?_;push_cast;exact dn (by push_cast [ze,zd,CLe,zh,qf])
def tA3:List Lz:=[[99,112,58,32,45,114,32,110,111,116,32,115,112,101,99,105,102,105,101,100,59,32,111,109,105,116,116,105,110,103,32,100,105,114,101,99,116,111,114,121,32,34,100,34]]
def tA4:List Lz:=[[99,112,58,32,99,97,110,110,111,116,32,99,111,112,121,32,97,32,100,105,114,101,99,116,111,114,121,44,32,34,100,34,44,32,105,110,116,111,32,105,116,115,101,108,102,44,32,34,100,47,100,34]]
def cA0:zF:=(jP (J7 qf) ⟨1,0,[47,101],[],[]⟩).1
def cA1:zF:=(jP cA0 ⟨2,0,[47,100,47,102],[47,101,47,102],[]⟩).1
def cB1:zF:=(jP (J7 qf) ⟨3,0,[47,100,47,102],[47,103],[]⟩).1
theorem zmK:GrD 1 cA0:=Jh.add (o:=⟨1,0,[47,101],[],[]⟩) (Wd _) (show ¬(1:Int)=3 by decide)
theorem zs8:GrD 2 cA1:=zmK.add (o:=⟨2,0,[47,100,47,102],[47,101,47,102],[]⟩) (Wd _) (show ¬(2:Int)=3 by decide)
theorem cpA:CpS [47] [114] (J7 qf) [100] [101] cA1:=by
 refine .tree ⟨0,Jh,by decide⟩ (by decide) (by kernel_rfl) (by kernel_rfl) (by kernel_rfl) (by decide) ?_;have e1:(XR (zr (J7 qf).w.fs [47] [100] (YT [114])).1.ino (trV (J7 qf).w.fs.xs 1 [])).getD [] = [47,100]:=by kernel_rfl
 have e2:zf (zr (J7 qf).w.fs [47] [100] (YT [114])).1.ino (J7 qf).w.fs.xs=⟨3,2,1,[],1,[⟨[102],4⟩]⟩:=by kernel_rfl
 rw[e1,e2];have e3:yp [47] (J7 qf) [101] = [47,101]:=by kernel_rfl
 have hd:(jP (J7 qf) ⟨1,0,yp [47] (J7 qf) [101],[],[]⟩).2=0:=by rw[e3];kernel_rfl
 refine CpI.dir (x:=⟨3,2,1,[],1,[⟨[102],4⟩]⟩) (fun i=>if i=0 then cA0 else cA1) ⟨⟨0,Jh,by decide⟩,by decide,by decide,by decide,by decide,by decide,by kernel_rfl⟩ ⟨by kernel_rfl,by kernel_rfl,by kernel_rfl,by kernel_rfl,by decide⟩ rfl (by kernel_rfl) hd (by rw[e3];rfl) (fun i hi=>?_) (fun i hi=>?_)
 ·by_cases h:i=0
  ·subst h;exact ⟨1,zmK,by decide⟩
  ·rw[if_neg h];exact ⟨2,zs8,by decide⟩
 ·have:i=0:=by
   have hi:i<1:=hi;omega
  subst this;show CpI [47] [114] cA0 [100,47,102] [47,100,47,102] [101,47,102] (zf 4 cA0.w.fs.xs) cA1;have e4:zf 4 cA0.w.fs.xs=⟨4,1,1,[122],0,[]⟩:=by kernel_rfl
  have e5:yp [47] cA0 [101,47,102] = [47,101,47,102]:=by kernel_rfl
  have h:=CpI.file (b:=[47]) (o:=[114]) (d:=cA0) (u:=[100,47,102]) (pl:=[47,100,47,102]) (v:=[101,47,102]) (x:=⟨4,1,1,[122],0,[]⟩) ⟨⟨1,zmK,by decide⟩,by decide,by decide,by decide,by decide,by decide,by kernel_rfl⟩ ⟨by kernel_rfl,by kernel_rfl,by kernel_rfl,by kernel_rfl,by decide⟩ rfl (by rw[e5];kernel_rfl);rw[e4];rw[e5]at h;exact h
theorem cpB:CpS [47] [] (J7 qf) [100,47,102] [103] cB1:=by
 refine .leaf ⟨0,Jh,by decide⟩ (by decide) (by kernel_rfl) (by kernel_rfl) (by
  have:(zf (zr (J7 qf).w.fs [47] [100,47,102] (YT [])).1.ino (J7 qf).w.fs.xs).kind=1:=by kernel_rfl
  rw[this];decide) (by kernel_rfl) (by kernel_rfl) (by kernel_rfl) ?_
 have e1:qu (J7 qf).w.fs (zr (J7 qf).w.fs [47] [100,47,102] (YT [])).1 = [47,100,47,102]:=by kernel_rfl
 have e2:zf (zr (J7 qf).w.fs [47] [100,47,102] (YT [])).1.ino (J7 qf).w.fs.xs=⟨4,1,1,[122],0,[]⟩:=by kernel_rfl
 rw[e1,e2];have e3:(zr (J7 qf).w.fs [47] [103] true).1=⟨1,[103],5⟩:=by kernel_rfl
 have e4:qu (J7 qf).w.fs (zr (J7 qf).w.fs [47] [103] true).1 = [47,103]:=by kernel_rfl
 have h:=CpI.over (b:=[47]) (o:=[]) (d:=J7 qf) (u:=[100,47,102]) (pl:=[47,100,47,102]) (v:=[103]) (x:=⟨4,1,1,[122],0,[]⟩) ⟨⟨0,Jh,by decide⟩,by decide,by decide,by decide,by decide,by decide,by kernel_rfl⟩ rfl (by kernel_rfl) (by simp) (by kernel_rfl) (by kernel_rfl) (by rw[e3];decide) (by rw[e3];decide) (by kernel_rfl) (by kernel_rfl) (by kernel_rfl) (by rw[e4];kernel_rfl);rw[e4]at h;exact h
theorem cpC:CpS [47] [] (J7 qf) [100] [101] (JL (J7 qf) (JU 5 16 [100] [101] 0)):=
 .shut ⟨0,Jh,by decide⟩ (by decide) (by decide) (by kernel_rfl) (by kernel_rfl) (by kernel_rfl) (by decide)
theorem cpD:CpS [47] [114] (J7 qf) [100] [100,47,100] (JL (J7 qf) (JU 5 19 [100] [100,47,100] 0)):=by
 refine .tree ⟨0,Jh,by decide⟩ (by decide) (by kernel_rfl) (by kernel_rfl) (by kernel_rfl) (by decide) ?_;have e1:(XR (zr (J7 qf).w.fs [47] [100] (YT [114])).1.ino (trV (J7 qf).w.fs.xs 1 [])).getD [] = [47,100]:=by kernel_rfl
 have e2:zf (zr (J7 qf).w.fs [47] [100] (YT [114])).1.ino (J7 qf).w.fs.xs=⟨3,2,1,[],1,[⟨[102],4⟩]⟩:=by kernel_rfl
 rw[e1,e2];exact CpI.self (x:=⟨3,2,1,[],1,[⟨[102],4⟩]⟩) ⟨⟨0,Jh,by decide⟩,by decide,by decide,by decide,by decide,by decide,by kernel_rfl⟩ rfl (by kernel_rfl) (by kernel_rfl) (by decide) (by decide)
theorem uI:Fun Tryz.prog GD 28 [] (jb true) 0:=by
 have q0:Fun Tryz.prog GD 55 [] (Xm qf) 0:=vc.g0;have q1:Fun Tryz.prog GD 13 [Xm qf] (HE (J7 qf)) 0:=(M7 qf (by decide) ym.2.2.2.2.1).g0;have qA:Fun Tryz.prog GD 29 [HE (J7 qf),.str [47],.agg [.sc (.int .i64 5),.str [114],.sl 1 [[.str [100]],[.str [101]]]]] (HE cA1) 0:=Xs 5 [114] [47] Jh (by decide) (by decide) (by decide) (by decide) (by kernel_rfl) cpA;have qB:Fun Tryz.prog GD 29 [HE (J7 qf),.str [47],.agg [.sc (.int .i64 5),.str [],.sl 1 [[.str [100,47,102]],[.str [103]]]]] (HE cB1) 0:=Xs 5 [] [47] Jh (by decide) (by decide) (by decide) (by decide) (by kernel_rfl) cpB;have qC:Fun Tryz.prog GD 29 [HE (J7 qf),.str [47],.agg [.sc (.int .i64 5),.str [],.sl 1 [[.str [100]],[.str [101]]]]] (HE (JL (J7 qf) (JU 5 16 [100] [101] 0))) 0:=Xs 5 [] [47] Jh (by decide) (by decide) (by decide) (by decide) (by kernel_rfl) cpC;have qD:Fun Tryz.prog GD 29 [HE (J7 qf),.str [47],.agg [.sc (.int .i64 5),.str [114],.sl 1 [[.str [100]],[.str [100]]]]] (HE (JL (J7 qf) (JU 5 19 [100] [100,47,100] 0))) 0:=Xs 5 [114] [47] Jh (by decide) (by decide) (by decide) (by decide) (by kernel_rfl) cpD;have p1:cA1.ops = [⟨1,0,[47,101],[],[]⟩,⟨2,0,[47,100,47,102],[47,101,47,102],[]⟩]:=by kernel_rfl
 have p2:cB1.ops = [⟨3,1,[47,100,47,102],[47,103],[]⟩]:=by kernel_rfl
 have p3:(JL (J7 qf) (JU 5 16 [100] [101] 0)).diags=tA3:=by kernel_rfl
 have p4:(JL (J7 qf) (JU 5 19 [100] [100,47,100] 0)).diags=tA4:=by kernel_rfl
 generalize JL (J7 qf) (JU 5 16 [100] [101] 0)=dC at *;generalize JL (J7 qf) (JU 5 19 [100] [100,47,100] 0)=dD at *;generalize cA1=dA at *;generalize cB1=dB at *;have r1:Fun Tryz.prog GD 32 [.sl 5 (dA.ops.map opL),.sl 5 [opL ⟨1,0,[47,101],[],[]⟩,opL ⟨2,0,[47,100,47,102],[47,101,47,102],[]⟩]] (jb true) 0:=by
  have h:=Ms dA.ops [⟨1,0,[47,101],[],[]⟩,⟨2,0,[47,100,47,102],[47,101,47,102],[]⟩] (by rw[p1];decide);rw[show Yj dA.ops [⟨1,0,[47,101],[],[]⟩,⟨2,0,[47,100,47,102],[47,101,47,102],[]⟩]=true by rw[p1];rfl]at h;exact h.g0
 have r2:Fun Tryz.prog GD 32 [.sl 5 (dB.ops.map opL),.sl 5 [opL ⟨3,1,[47,100,47,102],[47,103],[]⟩]] (jb true) 0:=by
  have h:=Ms dB.ops [⟨3,1,[47,100,47,102],[47,103],[]⟩] (by rw[p2];decide);rw[show Yj dB.ops [⟨3,1,[47,100,47,102],[47,103],[]⟩]=true by rw[p2];rfl]at h;exact h.g0
 have r3:Fun Tryz.prog GD 16 [.sl 1 (qj dC.diags),.sl 1 (qj tA3)] (jb true) 0:=by
  have h:=uV dC.diags tA3 (by rw[p3];decide);rw[Wl p3]at h;exact h.g0
 have r4:Fun Tryz.prog GD 16 [.sl 1 (qj dD.diags),.sl 1 (qj tA4)] (jb true) 0:=by
  have h:=uV dD.diags tA4 (by rw[p4];decide);rw[Wl p4]at h;exact h.g0
 clear p1 p2 p3 p4;refine fon Tryz.func28 ?_;dsimp only[Tryz.f28];push_cast;refine cl q0 ?_;push_cast;refine cl q1 ?_;push_cast;refine cl qA ?_;push_cast;refine cl q1 ?_;push_cast;refine cl qB ?_;push_cast;refine cl q1 ?_;push_cast;refine cl qC ?_;push_cast;refine cl q1 ?_;push_cast;refine cl qD ?_;push_cast;refine cl r1 ?_;push_cast;refine cl r2 ?_;push_cast;refine cl r3 ?_;push_cast;refine cl r4 ?_;push_cast;exact dn
end
section
theorem Up {n m:Lz} (h:m≠n) (es:List zN):qM zN.name m (zj n es)=qM zN.name m es:=by
 unfold zj Ye qM
 induction es with
 | nil=>rfl
 | cons e r ih =>
  rw[O6];by_cases q:e.name=n
  ·rw[if_neg (by simpa using q),ih,Af (by rw[q];simpa using fun z=>h z.symm)]
  ·rw[if_pos (by simpa using q)];by_cases z:e.name=m
   ·rw[Av (by simpa using z),Av (by simpa using z)]
   ·rw[Af (by simpa using z),Af (by simpa using z),ih]
theorem zks {x:Int} (h:JP xs ns x):∀ {y:Int},JP xs ns y->x=y:=by
 induction h with
 | root =>
  intro y h;rcases h.inv with ⟨_,e⟩ | ⟨ms,z,m,e,_⟩
  ·exact e.symm
  ·simp at e
 | step a b c e ih =>
  intro y h;rcases h.inv with ⟨e2,_⟩ | ⟨ms,z,m,e2,h1,h2,h3,h4⟩
  ·simp at e2
  ·obtain ⟨rfl,e3⟩:=List.append_inj' e2 rfl;cases e3;have:=ih h1;subst this;rw[e]at h4;exact Wv zN.ino (Option.some.inj h4)
theorem ziW {α:Type} {P:List α->Prop} (nil:P []) (snoc:∀ l x,P l->P (l++[x])) (l:List α):P l:=by
 rw[←List.reverse_reverse l]
 induction l.reverse with
 | nil=>exact nil
 | cons x r ih=>rw[List.reverse_cons];exact snoc _ _ ih
end
section
structure MvC (N:Nat) (d:zF):Prop where
 g:GrD N d
 kept:∀ k∈d.w.kept,k.slot<=d.slot
 sl:d.slot<=536870912+N
 stat:(d.status=1)↔0<d.diags.length
end
section
theorem xL {α κ:Type} [DecidableEq κ] {key:α->κ} (n:κ) (xs:List α):JZ key n (Ye key n xs)=false:=by
 unfold JZ;rw[Oh];intro y hy;simpa using (QC.1 hy).2
theorem xT {α κ:Type} [DecidableEq κ] {o:zik κ} {key:α->κ} {m:κ} {x:α}:∀ {xs:List α},JZ key (key x) xs=false->qM key m (Vn o key x xs)=if key x=m then some x else qM key m xs
 | [],_=>by
  show List.find? _ [x]=_;rw[OQ];by_cases h:key x=m
  ·rw[if_pos h,Wl h]
  ·rw[if_neg h,Wi h];rfl
 | y :: r,h=>by
  unfold JZ at h;rw[AQ,Bc]at h;have hy:key y≠key x:=by simpa using h.1
  have ih:=xT (o:=o) (m:=m) (x:=x) (xs:=r) h.2;unfold Vn;split
  ·show List.find? _ (x :: y :: r)=_;rw[OQ];by_cases h:key x=m
   ·rw[if_pos h,Wl h]
   ·rw[if_neg h,Wi h];rfl
  ·unfold qM at ih ⊢;rw[OQ,OQ];by_cases q:key y=m
   ·rw[Wl q,if_neg (fun z=>hy (q.trans z.symm))]
   ·rw[Wi q];exact ih
theorem ZG {n m:Lz} {i:Int} (es:List zN):qM zN.name m (zL n i es)=if n=m then some ⟨n,i⟩ else qM zN.name m es:=by
 unfold zL;rw[xT (x:=(⟨n,i⟩:zN)) (xL n es)];by_cases h:n=m
 ·rw[if_pos h,if_pos h]
 ·rw[if_neg h,if_neg h];exact Up (fun q=>h q.symm) es
theorem zfP (n:Lz) (es:List zN):qM zN.name n (zj n es)=none:=by
 have:=xL (key:=zN.name) n es;rw[qx]at this;unfold zj;cases h:qM zN.name n (Ye zN.name n es) with
 | none=>rfl
 | some e=>rw[h]at this;cases this
theorem znA {a b:zK} (hi:FsI f) (ha:zM f a) (hb:jr f b) (y:Int) :
  zf y (JG f a b).xs = { zf y f.xs with es:=if b.dir=y then zL b.name a.ino (if a.dir=y then zj a.name (zf y f.xs).es else (zf y f.xs).es) else if a.dir=y then zj a.name (zf y f.xs).es else (zf y f.xs).es,parent:=if a.ino=y/\(zf y f.xs).kind=2 then b.dir else (zf y f.xs).parent }:=by
 have hb1:zk b.dir (ql a.dir (zj a.name) f.xs)=true:=by rw[zQ ha.has];exact hb.has
 have hh:zk a.ino (ql b.dir (zL b.name a.ino) (ql a.dir (zj a.name) f.xs))=true:=by rw[zQ hb1,zQ ha.has];exact zM.ino hi ha
 have hg:zf y (ql b.dir (zL b.name a.ino) (ql a.dir (zj a.name) f.xs)) = { zf y f.xs with es:=if b.dir=y then zL b.name a.ino (if a.dir=y then zj a.name (zf y f.xs).es else (zf y f.xs).es) else if a.dir=y then zj a.name (zf y f.xs).es else (zf y f.xs).es }:=by
  rw[jS hb1];by_cases h1:b.dir=y
  ·rw[if_pos h1,if_pos h1,jS ha.has,h1];by_cases h2:a.dir=y
   ·rw[if_pos h2,if_pos h2,h2]
   ·rw[if_neg h2,if_neg h2]
  ·rw[if_neg h1,if_neg h1,jS ha.has];by_cases h2:a.dir=y
   ·rw[if_pos h2,if_pos h2,h2]
   ·rw[if_neg h2,if_neg h2]
 have hk:=(uH ha hb a.ino).1;unfold JG;simp only;generalize ql b.dir (zL b.name a.ino) (ql a.dir (zj a.name) f.xs)=g at hh hg hk;by_cases h0:(zf a.ino g).kind=2
 ·rw[if_pos h0];show zf y (qo _ _)=_;rw[qQ];show (if (zf a.ino g).ino=y then { zf a.ino g with parent:=b.dir } else zf y g:zl)=_;have hgi:=(zi hh).2.2;by_cases h3:a.ino=y
  ·subst h3;rw[if_pos hgi,if_pos (show a.ino=a.ino/\(zf a.ino f.xs).kind=2 from ⟨rfl,by rw[←hk];exact h0⟩)];exact Wv (fun z:zl=>{ z with parent:=b.dir }) hg
  ·rw[if_neg (fun q=>h3 (hgi.symm.trans q)),if_neg (show ¬(a.ino=y/\(zf y f.xs).kind=2) from fun q=>h3 q.1)];exact hg
 ·rw[if_neg h0,if_neg (show ¬(a.ino=y/\(zf y f.xs).kind=2) from fun q=>h0 (by rw[hk,q.1];exact q.2))];exact hg
theorem zsz {a b:zK} (hi:FsI f) (ha:zM f a) (hb:jr f b) (y:Int) :
  (zf y (JG f a b).xs).es=if b.dir=y then zL b.name a.ino (if a.dir=y then zj a.name (zf y f.xs).es else (zf y f.xs).es) else if a.dir=y then zj a.name (zf y f.xs).es else (zf y f.xs).es:=by rw[znA hi ha hb]
theorem ua {a b:zK} (hi:FsI f) (ha:zM f a) (hb:jr f b) (y:Int) (m:Lz) :
  qM zN.name m (zf y (JG f a b).xs).es=if b.dir=y/\b.name=m then some ⟨m,a.ino⟩ else if a.dir=y/\a.name=m then none else qM zN.name m (zf y f.xs).es:=by
 have e1:qM zN.name m (if a.dir=y then zj a.name (zf y f.xs).es else (zf y f.xs).es)=if a.dir=y/\a.name=m then none else qM zN.name m (zf y f.xs).es:=by
  by_cases h2:a.dir=y
  ·rw[if_pos h2];by_cases h3:a.name=m
   ·rw[if_pos ⟨h2,h3⟩,←h3];exact zfP _ _
   ·rw[if_neg (fun q=>h3 q.2)];exact Up (fun q=>h3 q.symm) _
  ·rw[if_neg h2,if_neg (fun q=>h2 q.1)]
 rw[zsz hi ha hb];by_cases h1:b.dir=y
 ·rw[if_pos h1,ZG];by_cases h3:b.name=m
  ·rw[if_pos h3,if_pos ⟨h1,h3⟩,h3]
  ·rw[if_neg h3,if_neg (show ¬(b.dir=y/\b.name=m) from fun q=>h3 q.2)];exact e1
 ·rw[if_neg h1,if_neg (show ¬(b.dir=y/\b.name=m) from fun q=>h1 q.1)];exact e1
theorem zdY (hi:FsI f) (hr:FsR f) {a b:zK} (ha:zM f a) (hb:jr f b) {nA:List Lz} (hA:JP f.xs nA a.dir) {ns:List Lz} {n:Int} (h:JP f.xs ns n):(∀ r,ns≠nA++a.name :: r)->JP (JG f a b).xs ns n:=by
 induction h with
 | root=>exact fun _=>.root
 | step h1 h2 h3 h4 ih =>
  rename_i ms y n m;intro hp;obtain ⟨q1,q2⟩:=UH hi ha hb y;refine .step (ih fun r q=>hp (r++[m]) (by rw[q,WL,W8])) (by rw[q1];exact h2) (by rw[q2];exact h3) ?_;rw[ua hi ha hb,if_neg,if_neg,h4]
  ·rintro ⟨e1,e2⟩;subst e1;have:=JP.one hi hr h1 hA ha.kind;exact hp [] (by rw[this,e2])
  ·rintro ⟨e1,e2⟩;subst e1;have:=hb.free;unfold YM at this;rw[e2,qx,h4]at this;cases this
theorem YZ {p:Lz} (h:(atV f p).2=0):jK p=true:=by
 unfold atV at h;by_cases hp:jK p=true
 ·exact hp
 ·rw[if_neg hp]at h;cases h
theorem zka (hi:FsI f) (hr:FsR f) {a b:zK} (ha:zM f a) (hb:jr f b) {p q:Lz} (hp:zT p=true) (hq:zT q=true) (ap:atV f p=(a,0)) (aq:atV f q=(b,0)) (hu:Xy q p=false) :
  (atV (JG f a b) p=(⟨a.dir,a.name,0⟩,0)/\atV (JG f a b) q=(⟨b.dir,b.name,a.ino⟩,0))/\¬Bel f.xs a.ino a.dir/\¬Bel f.xs a.ino b.dir /\
  ∃ nA nT,zn p=nA++[a.name]/\zn q=nT++[b.name]/\JP f.xs nA a.dir/\JP f.xs nT b.dir/\(∀ r,nT≠nA++a.name :: r)/\may a.name=true/\may b.name=true:=by
 have hmp:=YZ (f:=f) (p:=p) (by rw[ap]);have hmq:=YZ (f:=f) (p:=q) (by rw[aq]);have hu:Jx q p=false:=by rw[←Hf q p hmq hmp];exact hu
 have root:(1:Int)≠0->JP f.xs [] 1/\zk 1 f.xs=true:=fun _=>⟨.root,hi.root⟩;have ea:atW f.xs (zn p) ⟨0,[],1⟩=(a,0):=by rw[←ap];unfold atV;rw[if_pos hmp]
 have eb:atW f.xs (zn q) ⟨0,[],1⟩=(b,0):=by rw[←aq];unfold atV;rw[if_pos hmq]
 have nep:zn p≠[]:=by unfold zT at hp;simp only[Wo,OY,Of]at hp;exact hp.2
 have neq:zn q≠[]:=by unfold zT at hq;simp only[Wo,OY,Of]at hq;exact hq.2
 obtain ⟨nA,l1,l2⟩:=Z2 hi (zn p) [] ⟨0,[],1⟩ root (by rw[ea]) nep;obtain ⟨nT,r1,r2⟩:=Z2 hi (zn q) [] ⟨0,[],1⟩ root (by rw[eb]) neq;rw[ea]at l1 l2;rw[eb]at r1 r2;have l1:zn p=nA++[a.name]:=l1;have r1:zn q=nT++[b.name]:=r1;have l2:JP f.xs nA a.dir:=l2;have r2:JP f.xs nT b.dir:=r2;have mp:∀ z∈zn p,may z=true:=by unfold jK at hmp;rw[Wo,Ws]at hmp;exact hmp.2
 have mq:∀ z∈zn q,may z=true:=by unfold jK at hmq;rw[Wo,Ws]at hmq;exact hmq.2
 have jp:=qZ hmp;have jq:=qZ hmq;have ma:may a.name=true:=mp _ (by rw[l1];simp);have mt:may b.name=true:=mq _ (by rw[r1];simp);have vA:∀ z∈nA,may z=true:=fun z hz=>mp z (by rw[l1];simp[hz]);have vT:∀ z∈nT,may z=true:=fun z hz=>mq z (by rw[r1];simp[hz]);have pre:∀ r,nT≠nA++a.name :: r:=fun r e=>by
  have:Jx q p=true:=by
   unfold Jx;rw[WR,r1,l1,e];have:nA++a.name :: r++[b.name]=(nA++[a.name])++(r++[b.name]):=by simp
   rw[this,Bd]
  rw[hu]at this;cases this
 have preA:∀ r,nA≠nA++a.name :: r:=fun r e=>by
  have:=Wv List.length e;simp at this
 have la:JP f.xs (nA++[a.name]) a.ino:=.step l2 ha.has ha.kind ha.there;have b1:¬Bel f.xs a.ino a.dir:=fun q=>by
  obtain ⟨r,e⟩:=Bel.lead hi hr la q l2 ha.kind;rw[WL]at e;exact preA r e
 have b2:¬Bel f.xs a.ino b.dir:=fun q=>by
  obtain ⟨r,e⟩:=Bel.lead hi hr la q r2 hb.kind;rw[WL]at e;exact pre r e
 have mi:=zgb hi ha hb;obtain ⟨x1,x2⟩:=UH hi ha hb a.dir;obtain ⟨y1,y2⟩:=UH hi ha hb b.dir;obtain ⟨_,kA⟩:=Ht mi (zdY hi hr ha hb l2 l2 preA) (by rw[x1];exact ha.has) (by rw[x2];exact ha.kind) vA ma;obtain ⟨_,kT⟩:=Ht mi (zdY hi hr ha hb l2 r2 pre) (by rw[y1];exact hb.has) (by rw[y2];exact hb.kind) vT mt;rw[←l1,jp]at kA;rw[←r1,jq]at kT;have fA:zY a.name (zf a.dir (JG f a b).xs).es=0:=by
  unfold zY;rw[ua hi ha hb,if_neg,if_pos ⟨rfl,rfl⟩];rintro ⟨e1,e2⟩;have:=hb.free;unfold YM at this;rw[e1,e2,qx,ha.there]at this;cases this
 have fT:zY b.name (zf b.dir (JG f a b).xs).es=a.ino:=by
  unfold zY;rw[ua hi ha hb,if_pos ⟨rfl,rfl⟩]
 rw[fA]at kA;rw[fT]at kT;exact ⟨⟨kA,kT⟩,b1,b2,nA,nT,l1,r1,l2,r2,pre,ma,mt⟩
theorem zql {f:FsV} {follow:Bool} {lk:zl->zl->Vt->Bool->zK×Int}:∀ (l:Vt) (s:zK),(∀ n∈l,may n=true)->(atW f.xs l s).2=0->(follow=true->(zf (atW f.xs l s).1.ino f.xs).kind≠3)->onL f follow lk l s false=atW f.xs l s
 | [],s,_,_,_=>by unfold onL atW;rw[if_neg (fun q=>by cases q.2.1)]
 | n :: r,s,hn,h0,hf=>by
  have hm:=hn n Wj;have d1:n≠[46]:=fun q=>by rw[q]at hm;cases hm
  have d2:n≠[46,46]:=fun q=>by rw[q]at hm;cases hm
  unfold atW at h0 hf ⊢;unfold onL;by_cases h1:s.ino=0
  ·rw[if_pos h1]at h0;cases h0
  rw[if_neg h1]at h0 hf;by_cases h2:(zf s.ino f.xs).kind≠2
  ·rw[if_pos h2]at h0;cases h0
  rw[if_neg h2]at h0 hf;rw[if_neg h1,if_neg h2,if_neg d1,if_neg d2,if_neg h1,if_neg h2];have ih:=zql (f:=f) (follow:=follow) (lk:=lk) r ⟨(zf s.ino f.xs).ino,n,zY n (zf s.ino f.xs).es⟩ (fun z hz=>hn z (Wk _ hz)) h0 hf;rw[if_pos]
  ·exact ih
  ·cases r with
   | nil =>
    by_cases hw:follow=true
    ·exact .inr (.inl (by have:=hf hw;unfold atW at this;exact this))
    ·exact .inr (.inr ⟨rfl,by simpa using hw,rfl⟩)
   | cons m r =>
    refine .inr (.inl fun q=>?_);unfold atW at h0;by_cases h3:zY n (zf s.ino f.xs).es=0
    ·rw[if_pos h3]at h0;cases h0
    rw[if_neg h3,if_pos (by show (zf (zY n (zf s.ino f.xs).es) f.xs).kind≠2;rw[q];decide)]at h0;cases h0
theorem NF (b:Lz) {p:Lz} {follow:Bool} (h:(atV f p).2=0) (hn:(atV f p).1.name≠[]) (hl:p.length<=4095) (hf:follow=true->(zf (atV f p).1.ino f.xs).kind≠3):zr f b p follow=atV f p/\zT p=true/\jJ p=false:=by
 have hp:=YZ h;have hm:∀ n∈zn p,may n=true:=by
  unfold jK at hp;rw[Wo,Ws]at hp;exact hp.2
 have e:atV f p=atW f.xs (zn p) ⟨0,[],1⟩:=by unfold atV;rw[if_pos hp]
 have hne:zn p≠[]:=fun q=>by rw[e,q]at hn;exact hn rfl
 have hj:=qZ hp;have hpp:p=47 :: Lib.join (zn p) [47]:=by
  conv=>lhs;rw[←hj]
  unfold zH;rw[if_neg hne]
 have hs:jJ p=false:=by
  have:=yc true (zn p) false fun z hz=>jO (hm z hz);have e2:put true (zn p) false=p:=by
   conv=>rhs;rw[hpp]
   unfold put;simp
  rw[e2]at this;exact this
 refine ⟨?_,by unfold zT;rw[hp];simp[hne],hs⟩;unfold zr;have h1:p≠[]:=fun q=>by rw[hpp]at q;cases q
 have h2:¬VZ p=true:=fun q=>by
  unfold VZ at q;rw[Ot]at q;rcases q with q | q
  ·rw[Or]at q;obtain ⟨x,hx,q⟩:=q;have:=hm x hx;unfold may at this;simp only[Wo,WR]at this q;omega
  ·simp only[WR]at q;omega
 have h3:yz p=true:=by unfold yz;rw[hpp];rfl
 rw[if_neg h1,if_neg h2,if_pos h3,Gt,hs,e];rw[e]at h hf;exact zql (zn p) ⟨0,[],1⟩ hm h hf
end
section
theorem za1 {s:zK} (k:Int) (t:Lz) (hs:zk s.dir f.xs=true) (m:Int):zk m (Q8 f s k t).xs=(decide (f.next=m)||zk m f.xs):=by
 unfold Q8;show zk m (qo _ _)=_;rw[ja,zQ hs]
theorem ZO {s:zK} (k:Int) (t:Lz) (hs:zk s.dir f.xs=true) (m:Int) :
  zf m (Q8 f s k t).xs=if f.next=m then ⟨f.next,k,1,t,if k=2 then s.dir else 0,[]⟩ else if s.dir=m then qt (zf s.dir f.xs) (zL s.name f.next (zf s.dir f.xs).es) else zf m f.xs:=by
 unfold Q8;show zf m (qo _ _)=_;rw[qQ,jS hs]
structure Ste (f:FsV) (s:Int) (g:FsV):Prop where
 next:f.next<=g.next
 keep:∀ z,zk z f.xs=true->zk z g.xs=true/\(zf z g.xs).kind=(zf z f.xs).kind/\(zf z g.xs).data=(zf z f.xs).data/\(z≠s->zf z g.xs=zf z f.xs)
 lnk:∀ z,zk z f.xs=true->(zf z g.xs).links=(zf z f.xs).links
 more:∀ m e,qM zN.name m (zf s f.xs).es=some e->qM zN.name m (zf s g.xs).es=some e
 max:g.maxI=f.maxI/\g.maxB=f.maxB
theorem Ste.refl (f:FsV) (s:Int):Ste f s f:=⟨O7 _,fun z hz=>⟨hz,rfl,rfl,fun _=>rfl⟩,fun z _=>rfl,fun m e h=>h,rfl,rfl⟩
theorem Ste.trans {h:FsV} {s:Int} (a:Ste f s g) (b:Ste g s h):Ste f s h:=
 ⟨Int.le_trans a.next b.next,fun z hz=>by
  obtain ⟨a1,a2,a3,a4⟩:=a.keep z hz;obtain ⟨b1,b2,b3,b4⟩:=b.keep z a1;exact ⟨b1,b2.trans a2,b3.trans a3,fun q=>(b4 q).trans (a4 q)⟩,fun z hz=>(b.lnk z (a.keep z hz).1).trans (a.lnk z hz),fun m e q=>b.more m e (a.more m e q),b.max.1.trans a.max.1,b.max.2.trans a.max.2⟩
theorem Ste.deep {h:FsV} {s y:Int} (a:Ste f s g) (b:Ste g y h) (hs:zk s f.xs=true) (hy:zk y f.xs=false):Ste f s h/\zf s h.xs=zf s g.xs:=by
 have hne:∀ z,zk z f.xs=true->z≠y:=fun z hz e=>by rw[e,hy]at hz;cases hz
 have hsg:zf s h.xs=zf s g.xs:=(b.keep s (a.keep s hs).1).2.2.2 (hne s hs);refine ⟨⟨Int.le_trans a.next b.next,fun z hz=>?_,fun z hz=>(b.lnk z (a.keep z hz).1).trans (a.lnk z hz),fun m e q=>by rw[hsg];exact a.more m e q,b.max.1.trans a.max.1,b.max.2.trans a.max.2⟩,hsg⟩;obtain ⟨a1,a2,a3,a4⟩:=a.keep z hz;obtain ⟨b1,b2,b3,b4⟩:=b.keep z a1;exact ⟨b1,b2.trans a2,b3.trans a3,fun q=>(b4 (hne z hz)).trans (a4 q)⟩
theorem JP.grow {s:Int} (h:Ste f s g) {ns:List Lz} {n:Int} (hl:JP f.xs ns n):JP g.xs ns n:=by
 induction hl with
 | root=>exact .root
 | step h1 h2 h3 h4 ih =>
  rename_i ms y n m;obtain ⟨k1,k2,k3,k4⟩:=h.keep y h2;refine .step ih k1 (k2.trans h3) ?_;by_cases q:y=s
  ·subst q;exact h.more _ _ h4
  ·rw[k4 q];exact h4
theorem ziQ (hi:FsI f) {s:zK} (hs:jr f s) (k:Int) (t:Lz):Ste f s.dir (Q8 f s k t):=by
 have hn:=(QN hi).1;refine ⟨by show f.next<=f.next+1;omega,fun z hz=>?_,fun z hz=>?_,fun m e q=>?_,rfl,rfl⟩
 rotate_left 1
 ·have hne:¬f.next=z:=fun e=>by rw[←e,hn]at hz;cases hz
  rw[ZO k t hs.has,if_neg hne];by_cases q:s.dir=z
  ·rw[if_pos q,←q]
  ·rw[if_neg q]
 rotate_left 1
 ·have hne:¬f.next=z:=fun e=>by rw[←e,hn]at hz;cases hz
  rw[za1 k t hs.has,ZO k t hs.has,if_neg hne,hz,BA];by_cases q:s.dir=z
  ·rw[if_pos q,←q];exact ⟨rfl,rfl,rfl,fun z=>absurd rfl z⟩
  ·rw[if_neg q];exact ⟨rfl,rfl,rfl,fun _=>rfl⟩
 ·have hne:¬f.next=s.dir:=fun e=>by have:=hs.has;rw[←e,hn]at this;cases this
  rw[ZO k t hs.has,if_neg hne,if_pos rfl];show qM zN.name m (zL s.name f.next (zf s.dir f.xs).es)=_;rw[ZG];by_cases h:s.name=m
  ·subst h;have:=hs.free;unfold YM at this;rw[qx,q]at this;cases this
  ·rw[if_neg h];exact q
theorem yl (h:∀ x∈xs,x.data.length<=5000):z8 xs<=xs.length*5000:=by
 rw[Yb];refine yM fun x hx=>?_;have:=h x hx;unfold bN;split<;>omega
theorem NL (h:GrD N d) (hN:N<=3000) {s:zK} {q:Lz} (fr:jr d.w.fs s) (s0:s.ino=0) (mt:may s.name=true) (aq:atV d.w.fs q=(s,0)) (mx:d.w.fs.maxI=1073741824/\d.w.fs.maxB=1073741824) (k:Int) (t:Lz) (ht:t.length<=5000) :
  JK d.w q k t=({ d.w with fs:=Q8 d.w.fs s k t },0):=by
 have hi:=h.b.wi.fs;have z0:zk s.ino d.w.fs.xs=false:=by
  cases hq:zk s.ino d.w.fs.xs with
  | false=>rfl
  | true=>exact absurd s0 (Qj hi hq)
 have e:isV d.w.fs q false=(s,zf s.ino d.w.fs.xs,0):=by unfold isV;simp[aq,z0]
 have hl:=h.b.wb.len;have hb:=yl fun x hx=>(h.b.wb.node x hx).2.1;have hr:JS d.w.fs 1 (if k=1 then (t.length:Int) else 0)=true:=by
  unfold JS;rw[Wo,WR,WR,mx.1,mx.2];have:d.w.fs.xs.length*5000<=3040*5000:=WM _ (by omega);refine ⟨by omega,?_⟩;split<;>omega
 unfold JK;rw[e,if_neg (fun z=>z rfl)];unfold kw;rw[if_pos mt,if_pos hr]
theorem zg4 (h:GrD N d) (hN:N<=3000) {s:zK} {q:Lz} (fr:jr d.w.fs s) (s0:s.ino=0) (mt:may s.name=true) (hq:zT q=true) (aq:atV d.w.fs q=(s,0)) (mx:d.w.fs.maxI=1073741824/\d.w.fs.maxB=1073741824) :
  jP d ⟨1,0,q,[],[]⟩=(⟨{ d.w with fs:=Q8 d.w.fs s 2 [] },d.ops++[⟨1,0,q,[],[]⟩],d.diags,d.status,d.slot⟩,0) /\
  (∀ t,YQ t=true->t.length<=5000->jP d ⟨4,0,q,[],t⟩=(⟨{ d.w with fs:=Q8 d.w.fs s 3 t },d.ops++[⟨4,0,q,[],t⟩],d.diags,d.status,d.slot⟩,0)) /\
  ∀ p c,zT p=true->atV d.w.fs p=(c,0)->zk c.ino d.w.fs.xs=true->(zf c.ino d.w.fs.xs).kind=1->jP d ⟨2,0,p,q,[]⟩=(⟨{ d.w with fs:=Q8 d.w.fs s 1 (zf c.ino d.w.fs.xs).data },d.ops++[⟨2,0,p,q,[]⟩],d.diags,d.status,d.slot⟩,0):=by
 refine ⟨?_,fun t ht hl=>?_,fun p c hp ap hc hk=>?_⟩
 ·have em:=NL h hN fr s0 mt aq mx 2 [] (Wd _);have hm:=zjJ hq;have hdo:doV d.w ⟨1,0,q,[],[]⟩=({ d.w with fs:=Q8 d.w.fs s 2 [] },0):=by
   unfold doV;rw[show UL ⟨1,0,q,[],[]⟩=true from hm];exact em
  unfold jP;rw[if_neg (show ¬(7:Int)<1 by decide),show X4 d ⟨1,0,q,[],[]⟩=⟨1,0,q,[],[]⟩ from rfl,hdo,if_neg (fun z=>z rfl)]
  rfl
 ·have em:=NL h hN fr s0 mt aq mx 3 t hl;have hm:UL ⟨4,0,q,[],t⟩=true:=by
   unfold UL;have e1:Zh 4=false:=rfl;have e2:zoJ 4=false:=rfl;simp only[hq,e1,e2,ht]
   rfl
  have hdo:doV d.w ⟨4,0,q,[],t⟩=({ d.w with fs:=Q8 d.w.fs s 3 t },0):=by
   unfold doV;rw[hm];exact em
  unfold jP;rw[if_neg (show ¬(7:Int)<4 by decide),show X4 d ⟨4,0,q,[],t⟩=⟨4,0,q,[],t⟩ from rfl,hdo,if_neg (fun z=>z rfl)]
  rfl
 ·have hcd:(zf c.ino d.w.fs.xs).data.length<=5000:=(h.b.wb.node _ (zi hc).2.1).2.1;have em:=NL h hN fr s0 mt aq mx 1 (zf c.ino d.w.fs.xs).data hcd;have hm:UL ⟨2,0,p,q,[]⟩=true:=by
   unfold UL;have e1:Zh 2=false:=rfl;have e2:zoJ 2=true:=rfl;simp only[hp,hq,e1,e2]
   rfl
  have hf:qd d.w.fs p=(zf c.ino d.w.fs.xs,0):=by
   unfold qd isV;simp[ap,hc,hk]
  have hdo:doV d.w ⟨2,0,p,q,[]⟩=({ d.w with fs:=Q8 d.w.fs s 1 (zf c.ino d.w.fs.xs).data },0):=by
   unfold doV;rw[hm];show Jk d.w ⟨2,0,p,q,[]⟩=_;unfold Jk;rw[show (⟨2,0,p,q,[]⟩:OpV).a=p from rfl,hf,if_neg (fun z=>z rfl)];exact em
  unfold jP;rw[if_neg (show ¬(7:Int)<2 by decide),show X4 d ⟨2,0,p,q,[]⟩=⟨2,0,p,q,[]⟩ from rfl,hdo,if_neg (fun z=>z rfl)]
  rfl
theorem x4 {n:Lz} {i:Int}:∀ {es:List zN},(∀ e∈es,Op.bytesLess e.name n=true)->zL n i es=es++[⟨n,i⟩]
 | [],_=>rfl
 | e :: r,h=>by
  have he:=h e Wj;have hr:=x4 (i:=i) (es:=r) fun x hx=>h x (Wk _ hx);have hne:e.name≠n:=fun q=>by rw[q,Ya]at he;cases he
  have hnl:Op.bytesLess n e.name=false:=by
   cases hq:Op.bytesLess n e.name with
   | false=>rfl
   | true=>have:=Jj.tr he hq;rw[Jj.irr]at this;cases this
  unfold zL at hr ⊢;unfold Ye at hr ⊢;rw[Oc (by simpa using hne)];unfold Vn;rw[if_neg (show ¬Jj.lt n e.name=true by show ¬Op.bytesLess n e.name=true;rw[hnl];decide),hr]
  rfl
theorem VX {x z:Int} (hl:∀ y∈xs,∀ e∈y.es,zk e.ino xs=true) (hx:zk x xs=true) (h:Bel xs x z):zk z xs=true:=by
 induction h with
 | refl=>exact hx
 | step h1 h2 h3 ih =>
  obtain ⟨e,he,rfl⟩:=h3;exact hl _ (zi h2).2.1 e he
theorem zn5 {a T n z:Int} (hi:FsI f) (ha:zk a f.xs=true) (hT:¬Bel f.xs a T) (h:Ste f T g) (hn:Bel f.xs a n) (hb:Bel g.xs n z):Bel f.xs a z:=by
 induction hb with
 | refl=>exact hn
 | step h1 h2 h3 ih =>
  rename_i y w;have hy:=VX hi.led ha ih;have e:=(h.keep y hy).2.2.2 (fun q=>hT (by rw[←q];exact ih));rw[e]at h3;exact .step ih hy h3
theorem zh2 {A:List Lz} {y:Int} (hA:JP xs A y):∀ (r:List Lz) {d:Int},JP xs (A++r) d->Bel xs y d:=by
 intro r
 induction r using ziW with
 | nil=>intro d h;rw[Od]at h;rw[zks h hA];exact .refl
 | snoc r q ih =>
  intro d h;rw[←WL]at h;rcases h.inv with ⟨e,_⟩ | ⟨ms,z,m2,e,h1,h2,h3,h4⟩
  ·simp at e
  ·obtain ⟨rfl,_⟩:=List.append_inj' e rfl;exact .step (ih h1) h2 ⟨_,(qm h4).2,rfl⟩
end
section
theorem zdT {f:FsV} (hi:FsI f) (hr:FsR f) {o:Int}:∀ (m:Nat) {d:Int} {nd:List Lz},JP f.xs nd d->zk d f.xs=true->(zf d f.xs).kind=2->vB f.xs m d o=true->∃ A r,nd=A++r/\JP f.xs A o
 | 0,d,nd,_,_,_,h=>by cases h
 | m+1,d,nd,h1,h2,h3,h=>by
  unfold vB at h;by_cases e:d=o
  ·subst e;exact ⟨nd,[],by simp,h1⟩
  rw[if_neg e]at h;by_cases e1:d=1
  ·rw[if_pos e1]at h;cases h
  rw[if_neg e1]at h;rcases h1.inv with ⟨_,q⟩ | ⟨ms,y,k,rfl,g0,g1,g2,g3⟩
  ·exact absurd q e1
  ·obtain ⟨rk,hed⟩:=hr.edge;have gy:=zi g1;have hp:=(hed _ gy.2.1 _ (qm g3).2 h3).1;rw[gy.2.2]at hp;have hp:(zf d f.xs).parent=y:=hp;rw[hp]at h;obtain ⟨A,r,rfl,hA⟩:=zdT hi hr m g0 g1 g2 h;exact ⟨A,r++[k],by rw[WL],hA⟩
structure zui (f:FsV) (a t:zK) (p q:Lz) (g:FsV):Prop where
 i:FsI g
 lead:atV g q=(⟨t.dir,t.name,a.ino⟩,0)
 gone:(J8 g p).2=1
 len:g.xs.length=f.xs.length
 below:∀ m,qJ g.xs m a.ino q=qJ f.xs m a.ino q
end
section
def zb3 (f g:FsV):Nat->Int->Int->Int->Prop
 | 0,_,_,_=>True
 | m+1,lo,n,y=>zk y g.xs=true/\lo<=y/\(zf y g.xs).kind=(zf n f.xs).kind/\(zf y g.xs).data=(zf n f.xs).data/\(zf y g.xs).links=1/\(zf y g.xs).es.length=(zf n f.xs).es.length /\
  ∀ i (h:i<(zf n f.xs).es.length),∃ e,(zf y g.xs).es[i]?=some e/\e.name=((zf n f.xs).es[i]).name/\zb3 f g m lo ((zf n f.xs).es[i]).ino e.ino
theorem zb3.mono:∀ {m:Nat} {lo hi n y:Int},lo<=hi->zb3 f g m hi n y->zb3 f g m lo n y
 | 0,_,_,_,_,_,_=>trivial
 | m+1,lo,hi,n,y,hl,h=>by
  obtain ⟨h1,h2,h3,h4,h5,h6,h7⟩:=h;refine ⟨h1,Int.le_trans hl h2,h3,h4,h5,h6,fun i hi=>?_⟩;obtain ⟨e,e1,e2,e3⟩:=h7 i hi;exact ⟨e,e1,e2,e3.mono hl⟩
theorem zb3.stay {k:FsV} {lo:Int} (hs:∀ z,lo<=z->zk z g.xs=true->zk z k.xs=true/\zf z k.xs=zf z g.xs):∀ {m:Nat} {n y:Int},zb3 f g m lo n y->zb3 f k m lo n y
 | 0,_,_,_=>trivial
 | m+1,n,y,h=>by
  obtain ⟨h1,h2,h3,h4,h5,h6,h7⟩:=h;obtain ⟨s1,s2⟩:=hs y h2 h1;refine ⟨s1,h2,by rw[s2];exact h3,by rw[s2];exact h4,by rw[s2];exact h5,by rw[s2];exact h6,fun i hi=>?_⟩;obtain ⟨e,e1,e2,e3⟩:=h7 i hi;exact ⟨e,by rw[s2];exact e1,e2,e3.stay hs⟩
def szC (xs:List zl):Nat->Int->Nat
 | 0,_=>1
 | m+1,n=>1+((zf n xs).es.map fun e=>szC xs m e.ino).sum
def zna (xs:List zl):Nat->Int->Prop
 | 0,n=>(zf n xs).es = []
 | m+1,n=>∀ e∈(zf n xs).es,zna xs m e.ino
theorem zid (h:GrD N d) (hN:N<=3000) {nv:List Lz} {D:Int} {nm:Lz} (hl:JP d.w.fs.xs nv D) (hh:zk D d.w.fs.xs=true) (hk:(zf D d.w.fs.xs).kind=2) (hf:YM nm (zf D d.w.fs.xs).es=false) (hm:may nm=true) (hv:∀ z∈nv,may z=true) (hlen:(zH (nv++[nm])).length<=4095) :
  jr d.w.fs ⟨D,nm,0⟩/\zT (zH (nv++[nm]))=true/\atV d.w.fs (zH (nv++[nm]))=(⟨D,nm,0⟩,0)/\zr d.w.fs [47] (zH (nv++[nm])) false=(⟨D,nm,0⟩,0)/\qu d.w.fs ⟨D,nm,0⟩=zH (nv++[nm])/\jJ (zH (nv++[nm]))=false:=by
 have hi:=h.b.wi.fs;have hr:=h.r.fs;have hok:=h.ok (by omega);obtain ⟨p1,p2⟩:=Ht hi hl hh hk hv hm;have f0:zY nm (zf D d.w.fs.xs).es=0:=by
  unfold zY;have:=hf;unfold YM at this;rw[qx]at this;cases hq:qM zN.name nm (zf D d.w.fs.xs).es with
  | none=>rfl
  | some e=>rw[hq]at this;cases this
 rw[f0]at p2;have hne:nm≠[]:=(jO hm).1;obtain ⟨s1,_,s3⟩:=NF (f:=d.w.fs) (follow:=false) [47] (p:=zH (nv++[nm])) (by rw[p2]) (by rw[p2];exact hne) hlen (fun q=>by cases q);obtain ⟨ns,n1,n2,n3⟩:=GQ hok hh hk;have e:ns=nv:=JP.one hi hr n3 hl hk;subst e;refine ⟨⟨hh,hk,hf⟩,p1,p2,by rw[s1,p2],?_,s3⟩;unfold qu;rw[n2,W9];exact (YE ns nm fun y hy=>(jO (hv y hy)).1).symm
theorem MM {x:Lz} (h:∀ z∈ns,may z=true):Yx (zH ns) x=zH (ns++[x]):=by
 rw[vw ns x h];exact (YE ns x fun y hy=>(jO (h y hy)).1).symm
end
section
theorem zk2 {es:List zN} (h:JE es) {e:zN} (he:e∈es):qM zN.name e.name es=some e:=by
 have hx:YM e.name es=true:=by
  unfold YM JZ;rw[Or];exact ⟨e,he,by simp⟩
 have h2:=Yy hx;have h3:=qm h2;rw[h2];refine Wv some ?_;obtain ⟨i,hi',ei⟩:=Wx h3.2;obtain ⟨j,hj',ej⟩:=Wx he;have hp:=WO.1 h;rcases O9 i j with q | q | q
 ·have:=hp i j hi' hj' q;rw[ei,ej]at this;exact absurd this (by show ¬Op.bytesLess e.name e.name=true;rw[Ya];simp)
 ·subst q;rw[←ei,ej]
 ·have:=hp j i hj' hi' q;rw[ei,ej]at this;exact absurd this (by show ¬Op.bytesLess e.name e.name=true;rw[Ya];simp)
def zqo (w:qH) (n:Int) (s:zK):zl:={ zf (VA n w.kept).ino w.pool with parent:=if (zf (VA n w.kept).ino w.pool).kind=2 then s.dir else (zf (VA n w.kept).ino w.pool).parent }
def zsx (w:qH) (n:Int) (s:zK):qH:=
 if zk (VA n w.kept).ino w.fs.xs then ⟨Q4 w.fs s (VA n w.kept).ino,Ye zV.slot n w.kept,w.pool⟩
 else ⟨Q4 { w.fs with xs:=qo (zqo w n s) w.fs.xs } s (VA n w.kept).ino,Ye zV.slot n w.kept,qh (VA n w.kept).ino w.pool⟩
structure zt8 (v:qH) (n:Int) (s:zK) (x:zl) (w:qH):Prop where
 has:MZ n v.kept=true
 k:VA n v.kept=⟨n,x.ino,false,[]⟩
 file:zk x.ino v.fs.xs=true->(zf x.ino v.fs.xs).kind≠2
 room:zk x.ino v.fs.xs=false->JS v.fs 1 (if (zf x.ino v.pool).kind=1 then ((zf x.ino v.pool).data.length:Int) else 0)=true
 back:zsx v n s=w
 pool:zk x.ino v.fs.xs=false->zk x.ino v.pool=true/\zqo v n s = { x with links:=0 }
end
section
structure CpH (f0:FsV) (T:Int) (N:Nat) (d:zF):Prop where
 g:GrD N d
 s:Ste f0 T d.w.fs
 mx:d.w.fs.maxI=1073741824/\d.w.fs.maxB=1073741824
structure CpP (f0:FsV) (a T:Int) (m:Nat) (d:zF) (n D:Int) (np nv:List Lz) (nm:Lz):Prop where
 bel:Bel f0.xs a n
 low:zna f0.xs m n
 ld:JP f0.xs np n
 ne:np≠[]
 mp:∀ z∈np,may z=true
 to:JP d.w.fs.xs nv D
 th:zk D d.w.fs.xs=true
 tk:(zf D d.w.fs.xs).kind=2
 tf:YM nm (zf D d.w.fs.xs).es=false
 mn:may nm=true
 mv:∀ z∈nv,may z=true
 out:¬Bel f0.xs a D
 dd:D=T∨zk D f0.xs=false
 len:∀ z∈qJ f0.xs (m+1) n (zH (nv++[nm])),z.path.length<=4095
 lp:(zH np).length<=(zH (nv++[nm])).length+1000
structure CpO (f0:FsV) (m:Nat) (N:Nat) (d:zF) (n D:Int) (np nv:List Lz) (nm:Lz) (d':zF):Prop where
 run:CpI [47] [114] d (zH np) (zH np) (zH (nv++[nm])) (zf n f0.xs) d'
 g:GrD (N+szC f0.xs m n) d'
 st:d'.status=d.status
 ops:d'.ops.length=d.ops.length+szC f0.xs m n
 s:Ste d.w.fs D d'.w.fs
 es:(zf D d'.w.fs.xs).es=zL nm d.w.fs.next (zf D d.w.fs.xs).es
 mat:∀ K,zb3 f0 d'.w.fs K d.w.fs.next n d.w.fs.next
 nx:d.w.fs.next<d'.w.fs.next
section
variable {f0:FsV} {a T:Int}
theorem zkc {m:Nat} {n:Int} (h:(zf n xs).es = []):szC xs m n=1:=by
 cases m with
 | zero=>rfl
 | succ m=>unfold szC;rw[h];rfl
theorem za2 (hi0:FsI f0) (hr0:FsR f0) (ha:zk a f0.xs=true) (hT:¬Bel f0.xs a T) {m N:Nat} {d:zF} {n D:Int} {np nv:List Lz} {nm:Lz} (h:CpH f0 T N d) (hN:N<=2900) (p:CpP f0 a T m d n D np nv nm) :
  zk n f0.xs=true/\zf n d.w.fs.xs=zf n f0.xs/\zk n d.w.fs.xs=true/\zeU [47] d (zH np) (zH np) (zH (nv++[nm])) (zf n f0.xs)/\zpX [47] d (zH (nv++[nm]))/\jr d.w.fs ⟨D,nm,0⟩/\zT (zH (nv++[nm]))=true/\atV d.w.fs (zH (nv++[nm]))=(⟨D,nm,0⟩,0) /\
  zr d.w.fs [47] (zH (nv++[nm])) false=(⟨D,nm,0⟩,0)/\yp [47] d (zH (nv++[nm]))=zH (nv++[nm])/\zT (zH np)=true/\∃ y c,atV d.w.fs (zH np)=(⟨y,c,n⟩,0):=by
 have hn:=VX hi0.led ha p.bel;obtain ⟨k1,k2,k3,k4⟩:=h.s.keep n hn;have e:=k4 (fun q=>hT (by rw[←q];exact p.bel));have hlen:(zH (nv++[nm])).length<=4095:=p.len ⟨zH (nv++[nm]),n⟩ (by unfold qJ;rw[if_pos hn];exact Wj);obtain ⟨q1,q2,q3,q4,q5,q6⟩:=zid h.g (by omega) p.to p.th p.tk p.tf p.mn p.mv hlen;have hi:=h.g.b.wi.fs;have z0:zk (0:Int) d.w.fs.xs=false:=by
  cases hq:zk (0:Int) d.w.fs.xs with
  | false=>rfl
  | true=>exact absurd rfl (Qj hi hq)
 have hnod:=h.g.b.wb.node _ (zi k1).2.1;rw[e]at hnod;have hlp:=p.lp;have L:=JP.grow h.s p.ld;have hmp:=p.mp;have hat:zT (zH np)=true/\∃ y c,atV d.w.fs (zH np)=(⟨y,c,n⟩,0):=by
  rcases L.inv with ⟨e,_⟩ | ⟨ms,y,c,e,l1,l2,l3,l4⟩
  ·exact absurd e p.ne
  ·subst e;obtain ⟨r1,r2⟩:=Ht hi l1 l2 l3 (fun z hz=>hmp z (OB _ hz)) (hmp c (by simp));have:zY c (zf y d.w.fs.xs).es=n:=by unfold zY;rw[l4]
   rw[this]at r2;exact ⟨r1,y,c,r2⟩
 have e9:yp [47] d (zH (nv++[nm]))=zH (nv++[nm]):=by unfold yp;rw[q4];exact q5
 refine ⟨hn,e,k1,⟨⟨N,h.g,by omega⟩,by omega,by omega,by omega,⟨by have:=hnod.1;omega,fun x hx=>by have:=hnod.2.2 x hx;omega⟩,hnod.2.1,by rw[q4]⟩,⟨by rw[q4];exact p.th,by rw[q4];exact p.tk,by rw[q4];exact p.mn,by rw[q4];exact z0,q6⟩,q1,q2,q3,q4,e9,hat.1,hat.2⟩
theorem MJ {d':zF} (h:GrD N d) {D n:Int} {nm:Lz} (fr:jr d.w.fs ⟨D,nm,0⟩) {k:Int} {t:Lz} (e:d'.w.fs=Q8 d.w.fs ⟨D,nm,0⟩ k t) :
  Ste d.w.fs D d'.w.fs/\(zf D d'.w.fs.xs).es=zL nm d.w.fs.next (zf D d.w.fs.xs).es/\d.w.fs.next<d'.w.fs.next/\zk d.w.fs.next d'.w.fs.xs=true/\zf d.w.fs.next d'.w.fs.xs=⟨d.w.fs.next,k,1,t,if k=2 then D else 0,[]⟩:=by
 have hi:=h.b.wi.fs;have hn:=(QN hi).1;have hne:¬d.w.fs.next=D:=fun q=>by have:=fr.has;rw[show (⟨D,nm,0⟩:zK).dir=D from rfl,←q,hn]at this;cases this
 rw[e];refine ⟨ziQ hi fr k t,?_,by show d.w.fs.next<d.w.fs.next+1;omega,?_,?_⟩
 ·rw[ZO k t fr.has,if_neg hne,if_pos rfl]
 ·rw[za1 k t fr.has];simp
 ·rw[ZO k t fr.has,if_pos rfl]
theorem Mr (hi0:FsI f0) (hr0:FsR f0) (ha:zk a f0.xs=true) (hT:¬Bel f0.xs a T) {m N:Nat} {d:zF} {n D:Int} {np nv:List Lz} {nm:Lz} (h:CpH f0 T N d) (hN:N<=2900) (p:CpP f0 a T m d n D np nv nm) (hk:(zf n f0.xs).kind≠2):∃ d',CpO f0 m N d n D np nv nm d':=by
 obtain ⟨hn,e,hnd,pre,fre,fr,pq,aq,sq,eq,pp,y,c,ap⟩:=za2 hi0 hr0 ha hT h hN p;have gx:=zi hn;have hes:=hi0.file _ gx.2.1 hk;have hsz:szC f0.xs m n=1:=zkc hes;obtain ⟨a1,a2,a3⟩:=zg4 h.g (by omega) fr rfl p.mn pq aq h.mx;have hkk:=hi0.kind _ gx.2.1;have fin:∀ (op:OpV) (k:Int) (t:Lz),jP d op=(⟨{ d.w with fs:=Q8 d.w.fs ⟨D,nm,0⟩ k t },d.ops++[op],d.diags,d.status,d.slot⟩,0)->op.d.length<=1000->op.kind≠3->k=(zf n f0.xs).kind->t=(zf n f0.xs).data ->
   CpI [47] [114] d (zH np) (zH np) (zH (nv++[nm])) (zf n f0.xs) (jP d op).1->∃ d',CpO f0 m N d n D np nv nm d':=fun op k t ea hd hk3 ek et hI=>by
  have hG:=h.g.add (o:=op) hd hk3;obtain ⟨m1,m2,m3,m4,m5⟩:=MJ (d':=(jP d op).1) h.g (n:=n) fr (k:=k) (t:=t) (by rw[ea]);refine ⟨(jP d op).1,hI,by rw[hsz];exact hG,by rw[ea],by rw[ea,hsz];simp,m1,m2,fun K=>?_,m3⟩;cases K with
  | zero=>trivial
  | succ K =>
   unfold zb3;rw[m5,hes];exact ⟨m4,O7 _,ek,et,rfl,rfl,fun i hi=>absurd hi (Oe _)⟩
 rcases hkk with k1 | k2 | k3
 ·have ea:=a3 (zH np) _ pp ap hnd (by rw[e];exact k1);rw[show (⟨y,c,n⟩:zK).ino=n from rfl,e]at ea;refine fin _ 1 _ ea (Wd _) (show (2:Int)≠3 by decide) k1.symm rfl ?_;have hI:=CpI.file (b:=[47]) (o:=[114]) pre fre k1 (by rw[eq,ea]);rw[eq]at hI;exact hI
 ·exact absurd k2 hk
 ·have hl:=(hr0.node _ gx.2.1).lnk k3;have hdat:(zf n f0.xs).data.length<=1000:=by
   have:=h.g.dat _ (zi hnd).2.1 (by rw[e];exact k3);rw[e]at this;exact this
  have ht:YQ (zf n f0.xs).data=true:=by
   obtain ⟨l1,l2,l3⟩:=hl;have n1:(zf n f0.xs).data≠[]:=fun q=>by rw[q]at l1;exact absurd l1 (by decide)
   unfold YQ;rw[Wi n1,Wl l2,Ad,Oj,Oj,OY,Oh];intro b hb;simpa using l3 b hb
  have ea:=a2 _ ht (by omega);refine fin _ 3 _ ea (by exact hdat) (show (4:Int)≠3 by decide) k3.symm rfl ?_;have hI:=CpI.link (b:=[47]) (o:=[114]) pre fre k3 (by rw[eq,ea]);rw[eq]at hI;exact hI
end
end
section
theorem Mh (h:ns≠[]) (x:Lz):(zH (ns++[x])).length=(zH ns).length+1+x.length:=by
 rw[Ma ns [x] h (by simp)];simp[Lib.join,List.intercalate,List.intersperse];omega
section
variable {f0:FsV} {a T:Int}
theorem zos (hi0:FsI f0) (ha:zk a f0.xs=true) {y:Int} (hy:f0.next<=y):¬Bel f0.xs a y/\zk y f0.xs=false:=by
 have h0:zk y f0.xs=false:=by
  cases hq:zk y f0.xs with
  | false=>rfl
  | true =>
   have g:=zi hq;have:=(hi0.ino _ g.2.1).2;rw[g.2.2]at this;omega
 refine ⟨fun q=>?_,h0⟩;have:=VX hi0.led ha q;rw[h0]at this;cases this
theorem zfG (hi0:FsI f0) (hr0:FsR f0) (ha:zk a f0.xs=true) (hT:¬Bel f0.xs a T) (hTh:zk T f0.xs=true) {m N1:Nat} {d1:zF} {y n:Int} {np nv:List Lz}
  (IH:∀ e∈(zf n f0.xs).es,∀ {N:Nat} {d:zF},CpH f0 T N d->CpP f0 a T m d e.ino y (np++[e.name]) nv e.name->N+szC f0.xs m e.ino<=2900->∃ d',CpO f0 m N d e.ino y (np++[e.name]) nv e.name d')
  (h1:CpH f0 T N1 d1) (hyh:zk y d1.w.fs.xs=true) (hyk:(zf y d1.w.fs.xs).kind=2) (hye:(zf y d1.w.fs.xs).es = []) (hyn:f0.next<=y) (hl:JP d1.w.fs.xs nv y) (hnv:∀ z∈nv,may z=true) (hnv0:nv≠[])
  (hbn:Bel f0.xs a n) (hnk:(zf n f0.xs).kind=2) (hlow:∀ e∈(zf n f0.xs).es,zna f0.xs m e.ino) (hln:JP f0.xs np n) (hnp:np≠[]) (hmp:∀ z∈np,may z=true)
  (hlen:∀ e∈(zf n f0.xs).es,∀ z∈qJ f0.xs (m+1) e.ino (zH (nv++[e.name])),z.path.length<=4095) (hlp:(zH np).length<=(zH nv).length+1000)
  (hN:N1+((zf n f0.xs).es.map fun e=>szC f0.xs m e.ino).sum<=2900) :
  ∀ k,k<=(zf n f0.xs).es.length->∃ Dq:Nat->zF,Dq 0=d1 /\
   (∀ i (h:i<(zf n f0.xs).es.length),i<k->CpI [47] [114] (Dq i) (zH (np++[(zf n f0.xs).es[i].name])) (zH (np++[(zf n f0.xs).es[i].name])) (zH (nv++[(zf n f0.xs).es[i].name])) (zf (zf n f0.xs).es[i].ino f0.xs) (Dq (i+1))) /\
   (∀ i,i<=k->CpH f0 T (N1+(((zf n f0.xs).es.take i).map fun e=>szC f0.xs m e.ino).sum) (Dq i))/\(Dq k).status=d1.status/\(Dq k).ops.length=d1.ops.length+(((zf n f0.xs).es.take k).map fun e=>szC f0.xs m e.ino).sum/\Ste d1.w.fs y (Dq k).w.fs /\
   (zf y (Dq k).w.fs.xs).es.length=k/\∀ i (h:i<(zf n f0.xs).es.length),i<k->∃ e,(zf y (Dq k).w.fs.xs).es[i]?=some e/\e.name=(zf n f0.xs).es[i].name/\∀ K,zb3 f0 (Dq k).w.fs K (y+1) (zf n f0.xs).es[i].ino e.ino:=by
 have hnh:=VX hi0.led ha hbn;have gn:=zi hnh;have hR:=hi0.es _ gn.2.1;have hnm:=(hr0.node _ gn.2.1).nam;obtain ⟨yo,y0⟩:=zos hi0 ha hyn;intro k
 induction k with
 | zero=>exact fun _=>⟨fun _=>d1,rfl,fun i h h0=>absurd h0 (Oe _),fun i hi=>by
   have:i=0:=by omega
   subst this;exact h1,rfl,rfl,.refl _ _,by rw[hye];rfl,fun i h h0=>absurd h0 (Oe _)⟩
 | succ k ih =>
  intro hk;obtain ⟨Dq,q0,q1,q2,q3,q4,q5,q6,q7⟩:=ih (by omega);have hkl:k<(zf n f0.xs).es.length:=hk;have hme:=Wz hkl;have hH:=q2 k (Wb _);have hsum:(((zf n f0.xs).es.take (k+1)).map fun e=>szC f0.xs m e.ino).sum=(((zf n f0.xs).es.take k).map fun e=>szC f0.xs m e.ino).sum+szC f0.xs m (zf n f0.xs).es[k].ino:=by
   rw[Aw hkl,W5,AW];simp
  have hle:(((zf n f0.xs).es.take (k+1)).map fun e=>szC f0.xs m e.ino).sum<=((zf n f0.xs).es.map fun e=>szC f0.xs m e.ino).sum:=by
   conv=>rhs;rw[←W1 (k+1) (zf n f0.xs).es,W5,AW]
   omega
  obtain ⟨y1,y2,_,_⟩:=q5.keep y hyh;have hless:∀ e∈(zf y (Dq k).w.fs.xs).es,Op.bytesLess e.name (zf n f0.xs).es[k].name=true:=fun e he=>by
   obtain ⟨i,hi,ei⟩:=Wx he;obtain ⟨e2,e3,e4,_⟩:=q7 i (by omega) (by omega);rw[Wa hi,ei]at e3;cases e3;rw[e4];exact WO.1 hR i k (by omega) hkl (by omega)
  have htf:YM (zf n f0.xs).es[k].name (zf y (Dq k).w.fs.xs).es=false:=by
   cases hq:YM (zf n f0.xs).es[k].name (zf y (Dq k).w.fs.xs).es with
   | false=>rfl
   | true =>
    have f1:=(qm (Yy hq)).2;have:=hless _ f1;rw[show (⟨(zf n f0.xs).es[k].name,zY (zf n f0.xs).es[k].name (zf y (Dq k).w.fs.xs).es⟩:zN).name=(zf n f0.xs).es[k].name from rfl,Ya]at this;cases this
  have hmk:=hnm _ hme;have hP:CpP f0 a T m (Dq k) (zf n f0.xs).es[k].ino y (np++[(zf n f0.xs).es[k].name]) nv (zf n f0.xs).es[k].name:=
   ⟨.step hbn hnh ⟨_,hme,rfl⟩,hlow _ hme,.step hln hnh hnk (zk2 hR hme),by simp,fun z hz=>by
    rcases WB.1 hz with hz | hz
    ·exact hmp z hz
    ·rw[WT.1 hz];exact hmk,JP.grow q5 hl,y1,y2.trans hyk,htf,hmk,hnv,yo,.inr y0,hlen _ hme,by rw[Mh hnp,Mh hnv0];omega⟩
  obtain ⟨d',O⟩:=IH _ hme hH hP (by omega);have hyn2:y+1<=(Dq k).w.fs.next:=by
   have g:=zi y1;have:=(hH.g.b.wi.fs.ino _ g.2.1).2;rw[g.2.2]at this;omega
  have hes:(zf y d'.w.fs.xs).es=(zf y (Dq k).w.fs.xs).es++[⟨(zf n f0.xs).es[k].name,(Dq k).w.fs.next⟩]:=by rw[O.es,x4 hless]
  refine ⟨fun i=>if i<=k then Dq i else d',by simp only;rw[if_pos (Wd _)];exact q0,fun i h hik=>?_,fun i hik=>?_,?_,?_,?_,?_,fun i h hik=>?_⟩
  ·simp only;rcases Wp i k with q | q
   ·rw[if_pos (by omega),if_pos (by omega)];exact q1 i h q
   ·have:i=k:=by omega
    subst this;rw[if_pos (Wb _),if_neg (by omega)];exact O.run
  ·simp only;rcases Wp i (k+1) with q | q
   ·rw[if_pos (by omega)];exact q2 i (by omega)
   ·have:i=k+1:=by omega
    subst this;rw[if_neg (by omega),hsum];refine ⟨by rw[←Bj];exact O.g,(Ste.deep hH.s O.s hTh y0).1,?_⟩;rw[O.s.max.1,O.s.max.2];exact hH.mx
  ·simp only;rw[if_neg (by omega),O.st,q3]
  ·simp only;rw[if_neg (by omega),O.ops,q4,hsum];omega
  ·simp only;rw[if_neg (by omega)];exact q5.trans O.s
  ·simp only;rw[if_neg (by omega),hes,Wn,q6];rfl
  ·simp only;rw[if_neg (by omega),hes];rcases Wp i k with q | q
   ·obtain ⟨e,e1,e2,e3⟩:=q7 i h q;refine ⟨e,by rw[Wt (by omega)];exact e1,e2,fun K=>(e3 K).stay fun z hz hh=>?_⟩;obtain ⟨k1,_,_,k4⟩:=O.s.keep z hh;exact ⟨k1,k4 (by omega)⟩
   ·have:i=k:=by omega
    subst this;refine ⟨⟨(zf n f0.xs).es[i].name,(Dq i).w.fs.next⟩,by rw[WK (by omega),q6,Nat.sub_self];rfl,rfl,fun K=>(O.mat K).mono hyn2⟩
theorem zbf (hi0:FsI f0) (hr0:FsR f0) (ha:zk a f0.xs=true) (hT:¬Bel f0.xs a T) (hTh:zk T f0.xs=true) {m m' N:Nat} {d:zF} {n D:Int} {np nv:List Lz} {nm:Lz} (h:CpH f0 T N d) (p:CpP f0 a T m d n D np nv nm) (hk:(zf n f0.xs).kind=2)
  (hsz:szC f0.xs m n=1+((zf n f0.xs).es.map fun e=>szC f0.xs m' e.ino).sum) (hlow:∀ e∈(zf n f0.xs).es,zna f0.xs m' e.ino) (hlen:∀ e∈(zf n f0.xs).es,∀ z∈qJ f0.xs (m'+1) e.ino (zH (nv++[nm]++[e.name])),z.path.length<=4095)
  (IH:∀ e∈(zf n f0.xs).es,∀ {N:Nat} {d:zF} {y:Int} {np nv:List Lz},CpH f0 T N d->CpP f0 a T m' d e.ino y np nv e.name->N+szC f0.xs m' e.ino<=2900->∃ d',CpO f0 m' N d e.ino y np nv e.name d')
  (hN:N+szC f0.xs m n<=2900):∃ d',CpO f0 m N d n D np nv nm d':=by
 obtain ⟨hn,e,hnd,pre,fre,fr,pq,aq,sq,eq,pp,_⟩:=za2 hi0 hr0 ha hT h (by omega) p;have hi:=h.g.b.wi.fs;have hr:=h.g.r.fs;have gx:=zi hn;obtain ⟨ea,_⟩:=zg4 h.g (by omega) fr rfl p.mn pq aq h.mx;have hG:=h.g.add (o:=⟨1,0,zH (nv++[nm]),[],[]⟩) (Wd _) (show ¬(1:Int)=3 by decide);obtain ⟨m1,m2,m3,m4,m5⟩:=MJ (d':=(jP d ⟨1,0,zH (nv++[nm]),[],[]⟩).1) h.g (n:=n) fr (k:=2) (t:=[]) (by rw[ea]);obtain ⟨nx,nx2⟩:=QN hi;have hdw:∀ z,zk z d.w.fs.xs=true->z≠d.w.fs.next:=fun z hz q=>by rw[q,nx]at hz;cases hz
 have st1:(jP d ⟨1,0,zH (nv++[nm]),[],[]⟩).1.status=d.status:=by rw[ea]
 have op1:(jP d ⟨1,0,zH (nv++[nm]),[],[]⟩).1.ops.length=d.ops.length+1:=by rw[ea];simp
 have ok1:(jP d ⟨1,0,zH (nv++[nm]),[],[]⟩).2=0:=by rw[ea]
 have s1:Ste f0 T (jP d ⟨1,0,zH (nv++[nm]),[],[]⟩).1.w.fs:=by
  rcases p.dd with q | q
  ·rw[q]at m1;exact h.s.trans m1
  ·exact (Ste.deep h.s m1 hTh q).1
 have hnext:f0.next<=d.w.fs.next:=h.s.next;have hH1:CpH f0 T (N+1) (jP d ⟨1,0,zH (nv++[nm]),[],[]⟩).1:=⟨hG,s1,by rw[m1.max.1,m1.max.2];exact h.mx⟩;have hins:vB d.w.fs.xs d.w.fs.xs.length (zr d.w.fs [47] (zH (nv++[nm])) false).1.dir (zf n f0.xs).ino=false:=by
  rw[sq,gx.2.2];cases hq:vB d.w.fs.xs d.w.fs.xs.length D n with
  | false=>rfl
  | true =>
   obtain ⟨A,r,e1,hA⟩:=zdT hi hr _ p.to p.th p.tk hq;have p2:=p.to;rw[e1]at p2;exact absurd (zn5 hi0 ha hT h.s p.bel (zh2 hA r p2)) p.out
 obtain ⟨k1,k2,_,_⟩:=m1.keep D p.th;have hl1:JP (jP d ⟨1,0,zH (nv++[nm]),[],[]⟩).1.w.fs.xs (nv++[nm]) d.w.fs.next:=.step (JP.grow m1 p.to) k1 (k2.trans p.tk) (by rw[m2,ZG,if_pos rfl]);have hmv:∀ z∈nv++[nm],may z=true:=fun z hz=>by
  rcases WB.1 hz with hz | hz
  ·exact p.mv z hz
  ·rw[WT.1 hz];exact p.mn
 obtain ⟨Dq,q0,q1,q2,q3,q4,q5,q6,q7⟩:=zfG hi0 hr0 ha hT hTh (m:=m') (N1:=N+1) (d1:=(jP d ⟨1,0,zH (nv++[nm]),[],[]⟩).1) (y:=d.w.fs.next) (n:=n) (np:=np) (nv:=nv++[nm]) (fun e he N d hc hp hs=>IH e he hc hp hs) hH1 m4 (by rw[m5]) (by rw[m5]) hnext hl1 hmv (by simp) p.bel hk hlow p.ld p.ne p.mp hlen p.lp (by omega) _ (Wb _);rw[Oi]at q4;have q2l:=q2 _ (Wb _);rw[Oi]at q2l;obtain ⟨deep1,deep2⟩:=Ste.deep m1 q5 p.th nx;obtain ⟨t1,t2,t3,_⟩:=q5.keep _ m4;have t4:=q5.lnk _ m4;have hI:=CpI.dir (b:=[47]) (o:=[114]) (x:=zf n f0.xs) Dq pre fre hk hins (by rw[eq];exact ok1) (by rw[eq];exact q0) (fun i hi=>⟨_,(q2 i hi).g,by
   have:(((zf n f0.xs).es.take i).map fun e=>szC f0.xs m' e.ino).sum<=((zf n f0.xs).es.map fun e=>szC f0.xs m' e.ino).sum:=by
    conv=>rhs;rw[←W1 i (zf n f0.xs).es,W5,AW]
    omega
   omega⟩) (fun i hi=>by
   have hb:Bel f0.xs a (zf n f0.xs).es[i].ino:=.step p.bel hn ⟨_,Wz hi,rfl⟩;rw[MM p.mp,MM hmv,((q2 i (by omega)).s.keep _ (VX hi0.led ha hb)).2.2.2 (fun q=>hT (by rw[←q];exact hb))];exact q1 i hi hi)
 refine ⟨Dq (zf n f0.xs).es.length,hI,by rw[hsz,←Bj];exact q2l.g,q3.trans st1,by rw[q4,op1,hsz];omega,deep1,by rw[deep2];exact m2,fun K=>?_,Int.lt_of_lt_of_le m3 q5.next⟩;cases K with
 | zero=>trivial
 | succ K =>
  unfold zb3;refine ⟨t1,O7 _,by rw[t2,m5,hk],by rw[t3,m5];exact ((hr0.node _ gx.2.1).bare hk).symm,by rw[t4,m5],q6,fun i hi=>?_⟩;obtain ⟨e,e1,e2,e3⟩:=q7 i hi hi;exact ⟨e,e1,e2,(e3 K).mono (by omega)⟩
theorem zaV (hi0:FsI f0) (hr0:FsR f0) (ha:zk a f0.xs=true) (hT:¬Bel f0.xs a T) (hTh:zk T f0.xs=true):∀ (m:Nat) {N:Nat} {d:zF} {n D:Int} {np nv:List Lz} {nm:Lz},CpH f0 T N d->CpP f0 a T m d n D np nv nm->N+szC f0.xs m n<=2900->∃ d',CpO f0 m N d n D np nv nm d'
 | 0,N,d,n,D,np,nv,nm,h,p,hN=>by
  have hes:(zf n f0.xs).es = []:=p.low;by_cases hk:(zf n f0.xs).kind=2
  ·exact zbf hi0 hr0 ha hT hTh (m':=0) h p hk (by rw[hes];rfl) (by rw[hes];intro e he;cases he) (by rw[hes];intro e he;cases he) (by rw[hes];intro e he;cases he) hN
  ·exact Mr hi0 hr0 ha hT h (by omega) p hk
 | m+1,N,d,n,D,np,nv,nm,h,p,hN=>by
  by_cases hk:(zf n f0.xs).kind=2
  ·refine zbf hi0 hr0 ha hT hTh (m':=m) h p hk rfl p.low (fun e he z hz=>?_) (fun e he {N d y np nv} hc hp hs=>zaV hi0 hr0 ha hT hTh m hc hp hs) hN;refine p.len z ?_;have hn:=VX hi0.led ha p.bel;unfold qJ;rw[if_pos hn];refine Wk _ (Ag.2 ⟨e,he,?_⟩);rw[←YE (nv++[nm]) e.name (fun y hy=>by
    rcases WB.1 hy with hy | hy
    ·exact (jO (p.mv y hy)).1
    ·rw[WT.1 hy];exact (jO p.mn).1)]
   exact hz
  ·exact Mr hi0 hr0 ha hT h (by omega) p hk
end
end
section
inductive N7 {α β:Type} (P:α->β->Prop):List α->List β->Prop
 | nil:N7 P [] []
 | cons {a:α} {b:β} {r:List α} {t:List β}:P a b->N7 P r t->N7 P (a :: r) (b :: t)
theorem N7.app {α β:Type} {P:α->β->Prop} {a c:List α} {b d:List β} (h:N7 P a b) (k:N7 P c d):N7 P (a++c) (b++d):=by
 induction h with
 | nil=>exact k
 | cons h1 _ ih=>exact .cons h1 ih
theorem N7.len {α β:Type} {P:α->β->Prop} {a:List α} {b:List β} (h:N7 P a b):a.length=b.length:=by
 induction h with
 | nil=>rfl
 | cons h1 _ ih=>simp[ih]
theorem N7.get {α β:Type} {P:α->β->Prop} {a:List α} {b:List β} (h:N7 P a b):∀ (i:Nat) (h1:i<a.length) (h2:i<b.length),P a[i] b[i]:=by
 induction h with
 | nil=>intro i h1;exact absurd h1 (Oe _)
 | cons h1 _ ih =>
  intro i a b;cases i with
  | zero=>exact h1
  | succ i=>exact ih i (by simpa using a) (by simpa using b)
theorem N7.flat {α β γ δ:Type} {P:γ->δ->Prop} {F:α->List γ} {G:β->List δ}:∀ {a:List α} {b:List β},b.length=a.length->(∀ i (h:i<a.length),∃ e,b[i]?=some e/\N7 P (F a[i]) (G e))->N7 P (a.flatMap F) (b.flatMap G)
 | [],[],_,_=>.nil
 | [],_ :: _,h,_=>by cases h
 | _ :: _,[],h,_=>by cases h
 | x :: r,y :: s,h,k=>by
  rw[O0,O0];obtain ⟨e,e1,e2⟩:=k 0 (by simp);cases e1;exact e2.app (N7.flat (by simpa using h) fun i hi=>k (i+1) (by simpa using hi))
structure zp2 (f g:FsV) (lo:Int) (x y:zlf):Prop where
 path:x.path=y.path
 has:zk x.ino f.xs=true
 kind:(zf y.ino g.xs).kind=(zf x.ino f.xs).kind
 data:(zf y.ino g.xs).data=(zf x.ino f.xs).data
 one:(zf y.ino g.xs).links=1
 own:lo<=y.ino
theorem zes {f g:FsV} {lo:Int} (hl:∀ x∈f.xs,∀ e∈x.es,zk e.ino f.xs=true):∀ (m:Nat) {m2:Nat} {n y:Int} {q:Lz},m<=m2->zk n f.xs=true->zna f.xs m n->zb3 f g (m+1) lo n y->N7 (zp2 f g lo) (qJ f.xs (m+1) n q) (qJ g.xs (m2+1) y q)
 | m,m2,n,y,q,hm,hh,hlow,h=>by
  unfold zb3 at h;obtain ⟨h1,h2,h3,h4,h5,h6,h7⟩:=h;unfold qJ;rw[if_pos hh,if_pos h1];refine .cons ⟨rfl,hh,h3,h4,h5,h2⟩ ?_;cases m with
  | zero =>
   have he:(zf n f.xs).es = []:=hlow;rw[he]at h6 ⊢;rw[WV (l:=(zf y g.xs).es) (by simpa using h6)];exact .nil
  | succ m =>
   obtain ⟨k,rfl⟩:∃ k,m2=k+1:=⟨m2-1,by omega⟩;refine N7.flat h6 fun i hi=>?_;obtain ⟨e,e1,e2,e3⟩:=h7 i hi;have hm':=Wz hi;refine ⟨e,e1,?_⟩;rw[e2];exact zes hl m (by omega) (hl _ (zi hh).2.1 _ hm') (hlow _ hm') e3
theorem zgm {f:FsV} (hl:∀ x∈f.xs,∀ e∈x.es,zk e.ino f.xs=true):∀ (m:Nat) {n:Int} {q:Lz},zk n f.xs=true->zna f.xs m n->szC f.xs m n=(qJ f.xs (m+1) n q).length
 | m,n,q,hh,hlow=>by
  unfold qJ;rw[if_pos hh];cases m with
  | zero =>
   have he:(zf n f.xs).es = []:=hlow;rw[he];rfl
  | succ m =>
   rw[Wr,List.length_flatMap];show 1+_=_;rw[Nat.add_comm];refine Wv (fun z=>List.sum z+1) (AJ fun e he=>?_);exact zgm hl m (hl _ (zi hh).2.1 _ he) (hlow _ he)
theorem zaa {f:FsV} (h:okM f):∀ (m k:Nat) (n:Int),Dep f.xs k n->zk n f.xs=true->f.xs.length<=m+k->zna f.xs m n
 | 0,k,n,hd,hh,hm=>by
  show (zf n f.xs).es = [];by_cases hk:(zf n f.xs).kind=2
  ·have:=zaw h hd hh hk;omega
  ·exact (Qk h.2).file _ (zi hh).2.1 hk
 | m+1,k,n,hd,hh,hm=>fun e he=>zaa h m (k+1) e.ino (.step hd hh he) ((Qk h.2).led _ (zi hh).2.1 e he) (by omega)
theorem zmg {K:Nat} {l:JV} (h:∀ p∈l,p.2.es.length<=K/\(p.2.kind≠2->p.2.es = [])):Vq l<=K*(Yu l).length:=by
 induction l with
 | nil=>exact Wd _
 | cons p r ih =>
  have hp:=h p Wj;have ih:=ih fun q hq=>h q (Wk _ hq);unfold Vq at ih ⊢;rw[WC,OO];unfold Yu at ih ⊢;by_cases hk:p.2.kind=2
  ·rw[Oc (by simpa using hk),WC,Wr,Nat.mul_add,Nat.mul_one];omega
  ·rw[ON (by simpa using hk),hp.2 hk];simpa using ih
theorem zjk (h:okM f) (h40:f.xs.length<=40/\∀ x∈f.xs,x.es.length<=40) (m:Nat) {n:Int} (hh:zk n f.xs=true) (ns:List Lz):(qX f.xs m n ns).length<=1601:=by
 obtain ⟨h0,_,h2,_⟩:=qN h;have h1:=N0 (xs:=f.xs) m n ns;have hg:∀ p∈qX f.xs m n ns,p.2∈f.xs:=fun p hp=>by
  obtain ⟨j,_,q2,q3⟩:=Yr m n ns p hp;rw[←q3];exact (qY q2).1
 have hs:=zmg (K:=40) (l:=qX f.xs m n ns) fun p hp=>⟨h40.2 _ (hg p hp),fun hk=>((h2 _ (hg p hp)).2.1 hk).1⟩;have hd:=XJ (YD h m n ns hh) fun d hd=>by
  obtain ⟨p,p1,_,rfl⟩:=ZW hd;obtain ⟨_,_,q2,_⟩:=Yr m n ns p p1;exact q2
 have:=h40.1;have:40*(Yu (qX f.xs m n ns)).length<=40*40:=Nat.mul_le_mul_left _ (by omega);omega
def JN (w:qH):qH:={ w with fs:={ w.fs with maxI:=1073741824,maxB:=1073741824 } }
theorem zqG {w:qH} (h:okW w) (hG:GrD 0 (J7 w)):GrD 0 (J7 (JN w)):=by
 have hi:=hG.b.wi;have hb:=hG.b.wb;have hr:=hG.r;have hx:=hi.fs;have h40:=(No h).len;have hby:=yl (xs:=w.fs.xs) fun x hx=>((No h).node x hx).2.1;have:w.fs.xs.length*5000<=40*5000:=WM _ h40;exact ⟨⟨⟨⟨hx.rises,hx.ino,hx.kind,hx.es,hx.file,hx.led,hx.links,hx.root,hx.base,hx.bare⟩,hi.kept,hi.pool,hi.apart⟩,⟨hb.len,hb.node,hb.klen,hb.kdata,hb.plen,hb.pnode,hb.next,(show (1073741824:Int)<=1073741824/\(1073741824:Int)<=1073741824/\(-1073741824:Int)<=1073741824/\(-1073741824:Int)<=1073741824 by decide)⟩,hG.b.ops,hG.b.diags,hG.b.slot⟩,
  ⟨⟨hr.fs.node,hr.fs.edge,⟨by show (w.fs.xs.length:Int)<=1073741824;omega,by show (z8 w.fs.xs:Int)<=1073741824;omega⟩,(show (1:Int)<=1073741824/\(1073741824:Int)<=1073741824/\(0:Int)<=1073741824/\(1073741824:Int)<=1073741824 by decide)⟩,hr.pool,hr.slots,hr.kept⟩,hG.next,hG.dat⟩
end
section
structure ztq (f:FsV) (q:Lz) (x:List zlf) (d':zF):Prop where
 g:GrD 2000 d'
 st:d'.status=0
 ops:d'.ops.length=x.length
 keep:∀ z,zk z f.xs=true->zk z d'.w.fs.xs=true/\(zf z d'.w.fs.xs).kind=(zf z f.xs).kind/\(zf z d'.w.fs.xs).data=(zf z f.xs).data
 all:∃ b:zK,atV d'.w.fs q=(b,0)/\N7 (zp2 f d'.w.fs f.next) x (qJ d'.w.fs.xs (d'.w.fs.xs.length+1) b.ino q)
theorem zot {w:qH} (hG:GrD 0 (J7 w)) (mx:w.fs.maxI=1073741824/\w.fs.maxB=1073741824) (h40:w.fs.xs.length<=40/\∀ x∈w.fs.xs,x.es.length<=40) {p q:Lz} {a t:zK} (ap:atV w.fs p=(a,0)) (aq:atV w.fs q=(t,0)) (h1:a.ino≠0) (h3:t.ino=0) (h4:t.name≠[]) (hu:Jx q p=false) (lp:p.length<=1000) (lq:q.length<=1000)
  (hx:∀ z∈qJ w.fs.xs (w.fs.xs.length+1) a.ino q,z.path.length<=4095):Yi w.fs [47] 5 [114] [p,q]=some [q]/\∃ d',CpS [47] [114] (J7 w) p q d'/\ztq w.fs q (qJ w.fs.xs (w.fs.xs.length+1) a.ino q) d':=by
 have hi:=hG.b.wi.fs;have hr:=hG.r.fs;have hi:FsI w.fs:=hi;have hr:FsR w.fs:=hr;have hok:okM w.fs:=hG.ok (by omega);have z0:zk (0:Int) w.fs.xs=false:=by
  cases hq:zk (0:Int) w.fs.xs with
  | false=>rfl
  | true=>exact absurd rfl (Qj hi hq)
 have hp:(atV w.fs p).2=0:=by rw[ap]
 have hq:(atV w.fs q).2=0:=by rw[aq]
 have plp:=YZ hp;have np0:zn p≠[]:=fun e=>by
  unfold Jx at hu;rw[e]at hu;simp at hu
 have pp:zT p=true:=by unfold zT;rw[plp,Wi np0];rfl
 obtain ⟨a1,a2,a3,a4⟩:=zgs hi pp hp;rw[ap]at a1 a2 a3 a4;have mp:∀ z∈zn p,may z=true:=by unfold jK at plp;rw[Wo,Ws]at plp;exact plp.2
 have h2:a.name≠[]:=(jO (mp _ a4)).1;obtain ⟨sp,_,_⟩:=NF (follow:=false) [47] hp (by rw[ap];exact h2) (by omega) (fun q=>by cases q);obtain ⟨sq,pq,sl⟩:=NF (follow:=false) [47] hq (by rw[aq];exact h4) (by omega) (fun q=>by cases q);obtain ⟨sq2,_,_⟩:=NF (follow:=true) [47] hq (by rw[aq];exact h4) (by omega) (fun _ z=>by rw[aq,h3,(J4 z0).2]at z;cases z);rw[ap]at sp;rw[aq]at sq sq2;have hha:zk a.ino w.fs.xs=true:=by
  have hx:YM a.name (zf a.dir w.fs.xs).es=true:=by
   unfold YM;rw[qx];cases hq:qM zN.name a.name (zf a.dir w.fs.xs).es with
   | some e=>rfl
   | none=>have a3:a.ino=zY a.name (zf a.dir w.fs.xs).es:=a3;unfold zY at a3;rw[hq]at a3;exact absurd a3 h1
  have:=VI hi a1 hx;rw[a3];exact this
 have hn:zk t.ino w.fs.xs=false:=by rw[h3];exact z0
 have ta:zM w.fs a:=by
  have:=(jB hi pp (by unfold isV;simp[ap,hha])).1;unfold isV at this;rw[ap]at this;exact this
 have tb:jr w.fs t:=by
  have:=Ju hi pq (by unfold isV;simp[aq,hn]);unfold isV at this;rw[aq]at this;exact this
 have up:Xy q p=false:=by rw[Hf q p (YZ hq) (YZ hp)];exact hu
 obtain ⟨_,b1,b2,nA,nT,l1,r1,l2,r2,pre,ma,mt⟩:=zka hi hr ta tb pp pq ap aq up;have la:JP w.fs.xs (zn p) a.ino:=by rw[l1];exact .step l2 ta.has ta.kind ta.there
 have plq:=YZ hq;have mq:∀ z∈zn q,may z=true:=by unfold jK at plq;rw[Wo,Ws]at plq;exact plq.2
 have jp:=qZ plp;have jq:zH (nT++[t.name])=q:=by rw[←r1];exact qZ plq
 refine ⟨?_,?_⟩
 ·have hd:ZL w.fs [47] q=false:=by
   unfold ZL;rw[sq2,h3,(J4 z0).2,Ai];exact .inr rfl
  unfold Yi;rw[if_neg (show ¬[p,q].length=1 by simp),if_neg,if_pos (show [p,q].length=2 from rfl)]
  ·rfl
  ·unfold zdu;show ¬(_&&ZL w.fs [47] q)=true;rw[hd,O4];decide
 obtain ⟨k,hdep⟩:=Nl hok hha;have hlow:=zaa hok w.fs.xs.length k a.ino hdep hha (by omega);have hsz:=zgm hi.led w.fs.xs.length (q:=q) hha hlow;have hle:szC w.fs.xs w.fs.xs.length a.ino<=1601:=by
  have e:=VR hok (w.fs.xs.length+1) a.ino (zn q) (fun y hy=>(jO (mq y hy)).1);rw[qZ plq]at e;rw[hsz,e,We];exact zjk hok h40 _ hha _
 have hH:CpH w.fs t.dir 0 (J7 w):=⟨hG,.refl _ _,mx⟩;have tf:YM t.name (zf t.dir w.fs.xs).es=false:=tb.free;have hP:CpP w.fs a.ino t.dir w.fs.xs.length (J7 w) a.ino t.dir (zn p) nT t.name:=
  ⟨.refl,hlow,la,np0,mp,r2,tb.has,tb.kind,tf,mt,fun z hz=>mq z (by rw[r1];simp[hz]),b2,.inl rfl,by rw[jq];exact hx,by rw[jp,jq];omega⟩
 obtain ⟨d',O⟩:=zaV hi hr hha b2 tb.has _ hH hP (by omega);have run:=O.run;rw[jp,jq]at run;have hG2:=O.g.mono (show 0+szC w.fs.xs w.fs.xs.length a.ino<=2000 by omega);have hi2:=hG2.b.wi.fs;refine ⟨d',?_,hG2,O.st,by rw[O.ops,hsz];show 0+_=_;omega,fun z hz=>?_,⟨t.dir,t.name,w.fs.next⟩,?_,?_⟩
 ·have hb:(114:UInt8)∈[(114:UInt8)]:=WT.2 rfl;have ef:YT [114]=false:=rfl;by_cases hk:(zf a.ino w.fs.xs).kind=2
  ·obtain ⟨ns,n1,n2,n3⟩:=GQ hok hha hk;have e:=JP.one hi hr n3 la hk;have epl:(XR a.ino (trV w.fs.xs 1 [])).getD []=p:=by rw[n2,W9,e,jp]
   refine .tree ⟨0,hG,by omega⟩ (by omega) ?_ ?_ ?_ hb ?_
   ·rw[ef];show (zr w.fs [47] p false).2=0;rw[sp]
   ·rw[ef];show zk (zr w.fs [47] p false).1.ino w.fs.xs=true;rw[sp];exact hha
   ·rw[ef];show (zf (zr w.fs [47] p false).1.ino w.fs.xs).kind=2;rw[sp];exact hk
   ·rw[ef];show CpI _ _ _ _ ((XR (zr w.fs [47] p false).1.ino (trV w.fs.xs 1 [])).getD []) _ (zf (zr w.fs [47] p false).1.ino w.fs.xs) _;rw[sp];show CpI _ _ _ _ ((XR a.ino (trV w.fs.xs 1 [])).getD []) _ (zf a.ino w.fs.xs) _;rw[epl];exact run
  ·obtain ⟨ns,n1,n2,n3⟩:=GQ hok a1 a2;have e:=JP.one hi hr n3 l2 a2;have epl:qu w.fs a=p:=by
    unfold qu;rw[n2,W9,e,←YE nA a.name (fun y hy=>(jO (mp y (by rw[l1];simp[hy]))).1),←l1,jp]
   refine .leaf ⟨0,hG,by omega⟩ (by omega) ?_ ?_ ?_ ?_ ?_ ?_ ?_
   ·rw[ef];show (zr w.fs [47] p false).2=0;rw[sp]
   ·rw[ef];show zk (zr w.fs [47] p false).1.ino w.fs.xs=true;rw[sp];exact hha
   ·rw[ef];show (zf (zr w.fs [47] p false).1.ino w.fs.xs).kind≠2;rw[sp];exact hk
   ·rw[ef];show zk (zr w.fs [47] p false).1.dir w.fs.xs=true;rw[sp];exact a1
   ·rw[ef];show (zf (zr w.fs [47] p false).1.dir w.fs.xs).kind=2;rw[sp];exact a2
   ·rw[ef];show may (zr w.fs [47] p false).1.name=true;rw[sp];exact ma
   ·rw[ef];show CpI _ _ _ _ (qu w.fs (zr w.fs [47] p false).1) _ (zf (zr w.fs [47] p false).1.ino w.fs.xs) _;rw[sp];show CpI _ _ _ _ (qu w.fs a) _ (zf a.ino w.fs.xs) _;rw[epl];exact run
 ·obtain ⟨k1,k2,k3,_⟩:=O.s.keep z hz;exact ⟨k1,k2,k3⟩
 ·obtain ⟨k1,k2,_,_⟩:=O.s.keep t.dir tb.has;have:=(Ht hi2 (JP.grow O.s r2) k1 (k2.trans tb.kind) (fun z hz=>mq z (by rw[r1];simp[hz])) mt).2;rw[jq]at this;rw[this];have:zY t.name (zf t.dir d'.w.fs.xs).es=w.fs.next:=by
   unfold zY;rw[O.es,ZG,if_pos rfl]
   rfl
  rw[this]
 ·have hlen:w.fs.xs.length<=d'.w.fs.xs.length:=by
   have:=XJ (S:=w.fs.xs.map (·.ino)) (xs:=d'.w.fs.xs) (kH hi.rises) fun n hn=>by
    obtain ⟨x,hx,rfl⟩:=WQ.1 hn;exact (O.s.keep _ (U0.2 (WQ.2 ⟨x,hx,rfl⟩))).1
   rwa [We]at this
  exact zes hi.led _ hlen hha hlow (O.mat _)
end
section
open CA CB
open Go.RowKit
abbrev zr5 (w:qH):List C:=[.sc (.int .i64 1073741824),.sc (.int .i64 1073741824),.sc (.int .i64 w.fs.next),.sl 6 (zt w.fs.xs),.sl 4 (zJ w.kept),.sl 6 (zt w.pool)]
theorem G8 (h:okM f) {q:Lz} (hq:jK q=true) (m:Nat) (n:Int):(qJ f.xs m n q).length<=20000000:=by
 have hm:∀ z∈zn q,may z=true:=by unfold jK at hq;rw[Wo,Ws]at hq;exact hq.2
 have:=VR h m n (zn q) (fun y hy=>(jO (hm y hy)).1);rw[qZ hq]at this;rw[this,We];have:=za8 h m n (zn q);omega
theorem okM.midC (h:okM f):zte f.xs:=⟨by have:=h.1.1;omega,fun x hx=>by obtain ⟨a,b,c⟩:=h.1.2 x hx;exact ⟨a,by omega,c⟩⟩
theorem yR (w:qH) (p q:Lz):Fun Tryz.prog GD 7 [Xm w,.str p,.str q] (jb true) 0:=by
 have ha:=uI;have hf:Fun Tryz.prog GD 10 _ _ 0:=(zbn w [47] [p,q] (by decide)).g0;by_cases h:Xi w [47] [p,q]
 case neg =>
  rw[Wi h]at hf;refine fon Tryz.func7 ?_;dsimp only[Tryz.f7];push_cast;refine cl ha ?_;push_cast;refine cl hf ?_;push_cast;refine cl ha ?_;push_cast;exact dn
 rw[Wl h]at hf;have lp:=Gr h p (by simp);have lq:=Gr h q (by simp);obtain ⟨d1,d2⟩:=zj9 h;have hG0:GrD 0 (J7 w):=zlr h.2.1 d1 (by have:=h.2.2.1;omega) (by have:=h.2.2.2.1;omega);have h40:w.fs.xs.length<=40/\∀ x∈w.fs.xs,x.es.length<=40:=⟨(No h.2.1).len,fun x hx=>((No h.2.1).node x hx).1⟩;have hG:=zqG h.2.1 hG0;have hS:=(hG.b.s (by omega)).ws.fs;have q1:Fun Tryz.prog GD 22 _ _ 0:=(vF (JN w).fs hG.b.wi.fs hS p (by omega)).g0;have q2:Fun Tryz.prog GD 22 _ _ 0:=(vF (JN w).fs hG.b.wi.fs hS q (by omega)).g0;have q3:Fun Tryz.prog GD 23 _ _ 0:=(xf q p (by omega) (by omega)).g0;have q4:Fun Tryz.prog GD 13 [Xm (JN w)] (HE (J7 (JN w))) 0:=(M7 (JN w) (by have:=(No h.2.1).klen;show w.kept.length<=_;omega) h.2.1.2.2.2.2.1).g0;have hlaw:=fun (a t:zK) (e1:atV (JN w).fs p=(a,0)) (e2:atV (JN w).fs q=(t,0)) h1 h3 h4 hu hx=>zot hG ⟨rfl,rfl⟩ h40 (a:=a) (t:=t) e1 e2 h1 h3 h4 hu lp lq hx;refine fof (fun i=>if i=24 then JJ 10 11 else if i=25 then JJ 10 11 else []) Tryz.func7 ?_;dsimp only[Tryz.f7];push_cast;refine cl ha ?_;push_cast;refine cl hf ?_;push_cast;refine cl q1 ?_;push_cast;refine cl q2 ?_;push_cast;clear ha hf q1 q2;generalize hA:atV (JN w).fs p=A at *;generalize hT:atV (JN w).fs q=T at *;obtain ⟨a,e⟩:=A;obtain ⟨t,g⟩:=T;dsimp only;by_cases c1:e=0
 case neg =>
  have c1':=WG c1;push_cast [c1'];exact dn
 by_cases c2:g=0
 case neg =>
  have c1':=eq_true c1;have c2':=WG c2;push_cast [c1',c2'];exact dn
 by_cases c3:a.ino=0
 case pos =>
  have c1':=eq_true c1;have c2':=eq_true c2;have c3':=eq_true c3;push_cast [c1',c2',c3'];exact dn
 by_cases c4:t.ino=0
 case neg =>
  have c1':=eq_true c1;have c2':=eq_true c2;have c3':=WG c3;have c4':=WG c4;push_cast [c1',c2',c3',c4'];exact dn
 by_cases c5:t.name = []
 case pos =>
  have c1':=eq_true c1;have c2':=eq_true c2;have c3':=WG c3;have c4':=eq_true c4;have c5':=eq_true c5;push_cast [c1',c2',c3',c4',c5'];exact dn
 have c1':=eq_true c1;have c2':=eq_true c2;have c3':=WG c3;have c4':=eq_true c4;have c5':=WG c5;push_cast [c1',c2',c3',c4',c5'];cases hu:Jx q p with
 | true =>
  rw[hu]at q3;refine cl q3 ?_;push_cast;exact dn
 | false =>
  rw[hu]at q3;subst c1 c2;have hpq:jK q=true:=YZ (f:=(JN w).fs) (by rw[hT]);have hok:=hG.ok (by omega);have hw40:=h40.1;have hnl:(zt w.fs.xs).length=w.fs.xs.length:=We ..;have q8:=U9 (G:=GD) (JN w).fs hok.midC (w.fs.xs.length+1) a.ino q (by omega) (by omega) (G8 hok hpq _ _);rw[show (((w.fs.xs.length+1:Nat):Int)-1)=(w.fs.xs.length:Int) by omega]at q8;have hXl:(qJ (JN w).fs.xs (w.fs.xs.length+1) a.ino q).length<=20000000:=G8 hok hpq (w.fs.xs.length+1) a.ino;have hGm:=hG;have q4:Fun Tryz.prog GD 13 [.agg (zr5 w)] (HE (J7 (JN w))) 0:=q4;have hlaw:=hlaw a t rfl rfl c3 c4 c5 hu;have hXe:qJ (JN w).fs.xs ((JN w).fs.xs.length+1) a.ino q=qJ (JN w).fs.xs (w.fs.xs.length+1) a.ino q:=rfl;rw[hXe]at hlaw;generalize hX:qJ (JN w).fs.xs (w.fs.xs.length+1) a.ino q=X at *;refine cl q3 ?_;push_cast [hnl];refine cl q8 ?_;push_cast;have hXn:(NG X).length=X.length:=We ..;refine loop (fun i:Nat=>⟨[(1,.str p),(2,.str q),(3,.ptr 0 0),(11,.own 0 73 2 (NG X)),(12,.sc (.int .i64 i))],[zr5 w],1,0⟩) (fun i=>i<=X.length/\∀ j (h:j<X.length),j<i->X[j].path.length<=4095) (fun i=>X.length-i) 0 ⟨Wd _,fun j h h'=>absurd h' (Oe _)⟩ ?_ ?_
  ·exact wks [.inl 1]
  rintro i ⟨i1,i2⟩;by_cases hi:i<X.length
  ·have g1:=uc X i hi;by_cases hb:X[i].path.length<=4095
   ·have hb':((4095:Int)<(X[i].path.length:Int))=False:=WG (by omega);push_cast [hXn,hi,g1,hb']
    repeat refine an ?_
    exact ⟨i+1,⟨hi,fun j hj hlt=>by
     rcases Wp j i with q | q
     ·exact i2 j hj q
     ·have:j=i:=by omega
      subst this;exact hb⟩,by omega,wks [.inl 0]⟩
   ·have hb':((4095:Int)<(X[i].path.length:Int))=True:=eq_true (by omega);push_cast [hXn,hi,g1,hb']
    repeat refine an ?_
    exact dn
  obtain ⟨hP,D,hS5,T⟩:=hlaw fun z hz=>by
   obtain ⟨j,hj,rfl⟩:=Wx hz;exact i2 j hj (by omega)
  have q5:=Xs 5 [114] [47] hG (by decide) (by decide) lp lq hP hS5;obtain ⟨b,hb,hall⟩:=T.all;have hSD:=(T.g.b.s (by omega)).ws.fs;have hokD:=T.g.ok (by omega);have hlD:=T.g.b.wb.len;have q6:Fun Tryz.prog GD 22 _ _ 0:=(vF D.w.fs T.g.b.wi.fs hSD q (by omega)).g0;rw[hb]at q6;have q7:=U9 (G:=GD) D.w.fs hokD.midC (D.w.fs.xs.length+1) b.ino q (by omega) (by omega) (G8 hokD hpq _ _);rw[show (((D.w.fs.xs.length+1:Nat):Int)-1)=(D.w.fs.xs.length:Int) by omega]at q7;have hYl:=G8 hokD hpq (D.w.fs.xs.length+1) b.ino;have hnD:(zt D.w.fs.xs).length=D.w.fs.xs.length:=We ..;have hst:=T.st;have hops:=T.ops;have hlen:=hall.len;generalize hY:qJ D.w.fs.xs (D.w.fs.xs.length+1) b.ino q=Y at *;have hYn:(NG Y).length=Y.length:=We ..;have hops':(D.ops.length=X.length)=True:=eq_true hops;have hlen':(X.length=Y.length)=True:=eq_true hlen;push_cast [hXn,hi];refine cl q4 ?_;push_cast;refine cl q5 ?_;push_cast;refine cl q6 ?_;push_cast [hnD];refine cl q7 ?_;push_cast [hXn,hYn,hst,hops',hlen'];have hget:=fun (i:Nat) h1 h2=>hall.get i h1 h2;have hkeep:=T.keep;clear q3 q4 q5 q6 q7 q8 hlaw;refine loop (fun i:Nat=>⟨[(3,.ptr 0 0),(11,.own 0 73 2 (NG X)),(14,.ptr 2 0),(17,.own 1 73 2 (NG Y)),(18,.sc (.int .i64 i))],[zr5 w,zrH D,fsC D.w.fs],2,0⟩) (fun i=>i<=X.length) (fun i=>X.length-i) 0 (Wd _) ?_ ?_
  ·exact wks [.inl 0,.inl 2] (h5:=by push_cast [ze,zd,CLe,zh,hst])
  intro k hk;by_cases hkl:k<X.length
  ·have hkm:k<Y.length:=by omega
   have g1:=uc X k hkl;have g2:=uc Y k hkm;have I:=hget k hkl hkm;obtain ⟨_,k1,k2⟩:=hkeep _ I.has;have e1:(X[k].path=Y[k].path)=True:=eq_true I.path;have e2:((zf X[k].ino D.w.fs.xs).kind=(zf Y[k].ino D.w.fs.xs).kind)=True:=eq_true (by rw[k1,I.kind]);have e3:((zf X[k].ino D.w.fs.xs).data=(zf Y[k].ino D.w.fs.xs).data)=True:=eq_true (by rw[k2,I.data]);have e4:((zf Y[k].ino D.w.fs.xs).links=1)=True:=eq_true I.one;have e5:(Y[k].ino<w.fs.next)=False:=WG (by have:=I.own;have:w.fs.next<=Y[k].ino:=this;omega);have r1:=Jt (G:=GD) D.w.fs X[k].ino (by omega);have r2:=Jt (G:=GD) D.w.fs Y[k].ino (by omega);push_cast [hXn,hkl,g1]
   repeat refine an ?_
   refine cl r1 ?_;push_cast [hYn,hkm,g2]
   repeat refine an ?_
   refine cl r2 ?_;push_cast [hXn,hYn,hkl,hkm,g1,g2,e1,e2,e3,e4,e5]
   repeat refine an ?_
   exact ⟨k+1,hkl,by omega,wks [.inl 0,.inl 1]⟩
  push_cast [hXn,hkl];exact dn
end
end Go.Proofs.YtnpdbhbmakdklaaGreatDoor.Vcg
