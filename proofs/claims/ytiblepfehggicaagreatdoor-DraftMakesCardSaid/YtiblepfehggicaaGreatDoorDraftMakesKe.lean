/- What the proof of DraftMakes leans on, part 5: Rf5 Rf6 Rf7 Op3 Op4 Op5 Ref19 Rf8 Snd2 Snd3 Snd4 Snd5 Snd6 Snd7 Rf9 Rf10 Grw Con Kit KitBytes QuoteWalk1 Builder QuoteWalk2 Diag1 Spl Diag2 Diag3 Diag4 Dra3 Ref19b Ref19c Rf11 Ref8 Wlk1 Wlk2. No condition beyond what each theorem states. -/
import Derived.Test.YtiblepfehggicaaGreatDoorDraftMakesKd
import Derived.WalkKit
import Derived.Lib.Hide
import Derived.Lib.Join
import Derived.Deep.Draws
import Derived.Lib.SlBytesRow
import Derived.StillTailTactics
import Derived.Test.YtiblepfehggicaaGreatDoorProg
import Derived.WalkLawsBesides
import Derived.WalkSpells
import Derived.Shelf.Strings.Builder1
import Derived.Shelf.Strings.BuilderF
import Derived.Shelf.Strings.SlTrimAscii
set_option linter.unusedVariables false
set_option linter.unusedSimpArgs false
set_option linter.unusedSectionVars false
set_option maxRecDepth 100000
set_option maxHeartbeats 4000000
namespace Go.Proofs.YtiblepfehggicaaGreatDoor.Vcg
section
open CA CB
open Go.RowKit
theorem zg2 {f:C} {x:zy} (hx:x.es = []) (R:Env) (vs:List Value) (h:zu R zI [f,.agg [.sc (.int .i64 x.ino),.sc (.int .i64 x.kind),.sc (.int .i64 x.links),.str x.data,.sc (.int .i64 x.parent),.sc (.slice none 0 0)]] vs):zu R zI [f,.agg (JU x)] vs:=by
 obtain ⟨v1,us1,rfl,h1,h⟩:=ze.1 h
 obtain ⟨v2,us2,rfl,h2,h⟩:=ze.1 h
 refine ze.2 ⟨_,_,rfl,h1,ze.2 ⟨_,_,rfl,?_,h⟩⟩
 obtain ⟨ws,rfl,hw⟩:=jL.1 h2
 obtain ⟨w1,t1,e1,g1,hw⟩:=ze.1 hw
 obtain ⟨w2,t2,e2,g2,hw⟩:=ze.1 hw
 obtain ⟨w3,t3,e3,g3,hw⟩:=ze.1 hw
 obtain ⟨w4,t4,e4,g4,hw⟩:=ze.1 hw
 obtain ⟨w5,t5,e5,g5,hw⟩:=ze.1 hw
 obtain ⟨w6,t6,e6,g6,hw⟩:=ze.1 hw
 refine jL.2 ⟨ws,rfl,?_⟩
 have g6':Rep R zI (.sl 2 (zG x.es)) w6:=by rw[hx];exact vL g6
 rw[e1,e2,e3,e4,e5,e6]
 exact ze.2 ⟨_,_,rfl,g1,ze.2 ⟨_,_,rfl,g2,ze.2 ⟨_,_,rfl,g3,ze.2 ⟨_,_,rfl,g4,ze.2 ⟨_,_,rfl,g5,ze.2 ⟨_,_,rfl,g6',hw⟩⟩⟩⟩⟩⟩
theorem Gm {G:zm} (f:FsV) (x:zy) (hx:x.es = []) (hl:f.xs.length<=90000) :
  Fun Tryz.prog G 63 [.agg (fsC f),.agg [.sc (.int .i64 x.ino),.sc (.int .i64 x.kind),.sc (.int .i64 x.links),.str x.data,.sc (.int .i64 x.parent),.sc (.slice none 0 0)]] (.agg [.sc (.int .i64 f.maxI),.sc (.int .i64 f.maxB),.sc (.int .i64 f.next),.own 0 75 6 (zp (qH x f.xs))]) 1:=
 (jV f x hl).argsLe (zg2 hx)
theorem yW (f:FsV) (hf:FsI f) (hs:FsS f) (hn:zju f) (s:qM) (hsp:XG f s) (hnl:s.name.length<=100000) (k:Int) (t:List UInt8) (ht:t.length<=100000) :
  Fun Tryz.prog G0 125 [.agg (fsC f),.agg (YB s),.sc (.int .i64 k),.str t] (.tup [.agg (fsC (Zj f s k t).1),.sc (.int .i64 (Zj f s k t).2)]) 0:=by
 have hm:=ZC s.name (by omega)
 have hlen:=hs.len
 cases hmay:may s.name with
 | false =>
  have e:Zj f s k t=(f,9):=by unfold Zj;rw[hmay];rfl
  rw[hmay]at hm
  refine Fun.of (fun j=>if j=13 then [false,false,false,false,false,true] else []) Tryz.func125 rfl (zi rfl) (by kernel_rfl) ?_;dsimp only[Tryz.f125]
  push_cast -dsimp
  refine cl (hm) ?_;push_cast -dsimp
  exact ⟨[],rfl,rfl,by push_cast -dsimp [zb,za,CLe,zd,e]⟩
 | true =>
  rw[hmay]at hm
  have key:∀ b:Int,(if k=1 then (t.length:Int) else 0)=b->Jl f 1 b=false->Zj f s k t=(f,8):=fun b hb hr=>by unfold Zj;rw[hmay,if_pos rfl,hb,hr];rfl
  have key2:∀ b:Int,(if k=1 then (t.length:Int) else 0)=b->Jl f 1 b=true->Zj f s k t=(zab f s k t,0):=fun b hb hr=>by unfold Zj;rw[hmay,if_pos rfl,hb,hr];rfl
  have hg:=qC (G:=G0) f s.dir (by omega)
  rw[hsp.has]at hg
  have hes:=hs.es hsp.has
  have hw:=V6 (G:=G0) (zg s.dir f.xs).es s.name f.next (by omega)
  have hd1:=jV (G:=G0) f (qr (zg s.dir f.xs) (zY s.name f.next (zg s.dir f.xs).es)) (by omega)
  have hdl:(qK s.dir (zY s.name f.next) f.xs).length=f.xs.length:=jM hf.rises hsp.has
  have hd2:=fun pr:Int=>Gm (G:=G0) ⟨f.maxI,f.maxB,f.next,qK s.dir (zY s.name f.next) f.xs⟩ ⟨f.next,k,1,t,pr,[]⟩ rfl (by simp only;omega)
  have hn1:=hn.1
  have hn2:=hn.2
  have hx0:k=2->zab f s k t=⟨f.maxI,f.maxB,f.next+1,qH ⟨f.next,k,1,t,s.dir,[]⟩ (qK s.dir (zY s.name f.next) f.xs)⟩:=fun h=>by unfold zab;rw[if_pos h]
  have hx1:k≠2->zab f s k t=⟨f.maxI,f.maxB,f.next+1,qH ⟨f.next,k,1,t,0,[]⟩ (qK s.dir (zY s.name f.next) f.xs)⟩:=fun h=>by unfold zab;rw[if_neg h]
  unfold qK at hd2 hx0 hx1
  by_cases hk:k=1
  ·have hk':=eq_true hk
   have hk2:(k=2)=False:=eq_false (by omega)
   have hr:=VN (G:=G0) f hs 1 t.length (by omega) (by omega)
   cases hrm:Jl f 1 t.length with
   | false =>
    have e:=key _ (if_pos hk) hrm
    rw[hrm]at hr
    refine Fun.of (fun j=>if j=13 then [false,false,false,false,false,true] else []) Tryz.func125 rfl (zi rfl) (by kernel_rfl) ?_;dsimp only[Tryz.f125]
    push_cast -dsimp
    refine cl (hm) ?_;push_cast -dsimp [hk']
    refine cl (hr) ?_;push_cast -dsimp
    exact ⟨[],rfl,rfl,by push_cast -dsimp [zb,za,CLe,zd,e]⟩
   | true =>
    have e:=key2 _ (if_pos hk) hrm
    have ex:=hx1 (by omega)
    rw[hrm]at hr
    refine Fun.of (fun j=>if j=13 then [false,false,false,false,false,true] else []) Tryz.func125 rfl (zi rfl) (by kernel_rfl) ?_;dsimp only[Tryz.f125]
    push_cast -dsimp
    refine cl (hm) ?_;push_cast -dsimp [hk']
    refine cl (hr) ?_;push_cast -dsimp
    refine cl (hg) ?_;push_cast -dsimp
    refine cl (hw) ?_;push_cast -dsimp [hk2]
    refine cl (hd1) ?_;push_cast -dsimp
    refine cl (hd2 0) ?_;push_cast -dsimp
    (try simp only[lS]);repeat refine And.intro (by omega) ?_
    exact ⟨[],rfl,rfl,by push_cast -dsimp [zb,za,CLe,zd,e,ex]⟩
  ·have hk':=eq_false hk
   have hr:=VN (G:=G0) f hs 1 0 (by omega) (by omega)
   cases hrm:Jl f 1 0 with
   | false =>
    have e:=key _ (if_neg hk) hrm
    rw[hrm]at hr
    refine Fun.of (fun j=>if j=13 then [false,false,false,false,false,true] else []) Tryz.func125 rfl (zi rfl) (by kernel_rfl) ?_;dsimp only[Tryz.f125]
    push_cast -dsimp
    refine cl (hm) ?_;push_cast -dsimp [hk']
    refine cl (hr) ?_;push_cast -dsimp
    exact ⟨[],rfl,rfl,by push_cast -dsimp [zb,za,CLe,zd,e]⟩
   | true =>
    have e:=key2 _ (if_neg hk) hrm
    rw[hrm]at hr
    by_cases hk2:k=2
    ·have ex:=hx0 hk2
     have hk2':=eq_true hk2
     refine Fun.of (fun j=>if j=13 then [false,false,false,false,false,true] else []) Tryz.func125 rfl (zi rfl) (by kernel_rfl) ?_;dsimp only[Tryz.f125]
     push_cast -dsimp
     refine cl (hm) ?_;push_cast -dsimp [hk']
     refine cl (hr) ?_;push_cast -dsimp
     refine cl (hg) ?_;push_cast -dsimp
     refine cl (hw) ?_;push_cast -dsimp [hk2']
     refine cl (hd1) ?_;push_cast -dsimp
     refine cl (hd2 s.dir) ?_;push_cast -dsimp
     (try simp only[lS]);repeat refine And.intro (by omega) ?_
     exact ⟨[],rfl,rfl,by push_cast -dsimp [zb,za,CLe,zd,e,ex]⟩
    ·have ex:=hx1 hk2
     have hk2':=eq_false hk2
     refine Fun.of (fun j=>if j=13 then [false,false,false,false,false,true] else []) Tryz.func125 rfl (zi rfl) (by kernel_rfl) ?_;dsimp only[Tryz.f125]
     push_cast -dsimp
     refine cl (hm) ?_;push_cast -dsimp [hk']
     refine cl (hr) ?_;push_cast -dsimp
     refine cl (hg) ?_;push_cast -dsimp
     refine cl (hw) ?_;push_cast -dsimp [hk2']
     refine cl (hd1) ?_;push_cast -dsimp
     refine cl (hd2 0) ?_;push_cast -dsimp
     (try simp only[lS]);repeat refine And.intro (by omega) ?_
     exact ⟨[],rfl,rfl,by push_cast -dsimp [zb,za,CLe,zd,e,ex]⟩
theorem zbV (f:FsV) (hf:FsI f) (hs:FsS f) (s:qM) (hsp:XG f s) (i:Int) (hi:zF i f.xs=true) (hne:s.dir≠i):Fun Tryz.prog G0 90 [.agg (fsC f),.agg (YB s),.sc (.int .i64 i)] (.agg (fsC (Uw f s i))) 0:=by
 have hlen:=hs.len
 have hdl:(qK s.dir (zY s.name i) f.xs).length=f.xs.length:=jM hf.rises hsp.has
 have hg:=qC (G:=G0) f s.dir (by omega)
 have hg2:=qC (G:=G0) f i (by omega)
 rw[hsp.has]at hg
 rw[hi]at hg2
 have hes:=hs.es hsp.has
 have hw:=V6 (G:=G0) (zg s.dir f.xs).es s.name i (by omega)
 have hd1:=jV (G:=G0) f (qr (zg s.dir f.xs) (zY s.name i (zg s.dir f.xs).es)) (by omega)
 have hd2:=jV (G:=G0) ⟨f.maxI,f.maxB,f.next,qK s.dir (zY s.name i) f.xs⟩ { zg i f.xs with links:=(zg i f.xs).links+1 } (by simp only;omega)
 have hll:=Vy hf hs hi
 have e:Uw f s i=⟨f.maxI,f.maxB,f.next,qH { zg i f.xs with links:=(zg i f.xs).links+1 } (qK s.dir (zY s.name i) f.xs)⟩:=rfl
 unfold qK at hd2 e
 refine Fun.of (fun j=>if j=5 then [false,false,false,false,false,true] else []) Tryz.func90 rfl (zi rfl) (by kernel_rfl) ?_;dsimp only[Tryz.f90]
 push_cast -dsimp
 refine cl (hg) ?_;push_cast -dsimp
 refine cl (hg2) ?_;push_cast -dsimp
 refine cl (hw) ?_;push_cast -dsimp
 (try simp only[lS]);repeat refine And.intro (by omega) ?_
 refine cl (hd1) ?_;push_cast -dsimp
 refine cl (hd2) ?_;push_cast -dsimp
 exact ⟨[],rfl,rfl,by push_cast -dsimp [zb,za,CLe,zd,e]⟩
theorem yk (f:FsV) (hf:FsI f) (hs:FsS f) (s:qM) (hsp:qg f s):Fun Tryz.prog G0 93 [.agg (fsC f),.agg (YB s)] (.agg (fsC (zR f s))) 0:=by
 have hlen:=hs.len
 have hi:=hsp.ino hf
 have hdl:(qK s.dir (zh s.name) f.xs).length=f.xs.length:=jM hf.rises hsp.has
 have hg:=qC (G:=G0) f s.dir (by omega)
 have hg2:=qC (G:=G0) f s.ino (by omega)
 rw[hsp.has]at hg
 rw[hi]at hg2
 have hes:=hs.es hsp.has
 have hw:=Xr (G:=G0) (zg s.dir f.xs).es s.name (by omega)
 have hd1:=jV (G:=G0) f (qr (zg s.dir f.xs) (zh s.name (zg s.dir f.xs).es)) (by omega)
 have hd2:=jV (G:=G0) ⟨f.maxI,f.maxB,f.next,qK s.dir (zh s.name) f.xs⟩ { zg s.ino f.xs with links:=(zg s.ino f.xs).links-1 } (by simp only;omega)
 have hd3:=Nb (G:=G0) ⟨f.maxI,f.maxB,f.next,qK s.dir (zh s.name) f.xs⟩ s.ino (by simp only;omega)
 have hll:=Vy hf hs hi
 by_cases hz:(zg s.ino f.xs).links-1=0
 ·have e:zR f s=⟨f.maxI,f.maxB,f.next,qk s.ino (qK s.dir (zh s.name) f.xs)⟩:=by unfold zR;rw[if_pos hz]
  unfold qK at hd3 e
  have hz':=eq_true hz
  refine Fun.of (fun _=>[]) Tryz.func93 rfl (zi rfl) (by kernel_rfl) ?_;dsimp only[Tryz.f93]
  push_cast -dsimp
  refine cl (hg) ?_;push_cast -dsimp
  refine cl (hg2) ?_;push_cast -dsimp
  refine cl (hw) ?_;push_cast -dsimp
  (try simp only[lS]);repeat refine And.intro (by omega) ?_
  refine cl (hd1) ?_;push_cast -dsimp [hz']
  refine cl (hd3) ?_;push_cast -dsimp
  exact ⟨[],rfl,rfl,by push_cast -dsimp [zb,za,CLe,zd,e]⟩
 ·have e:zR f s=⟨f.maxI,f.maxB,f.next,qH { zg s.ino f.xs with links:=(zg s.ino f.xs).links-1 } (qK s.dir (zh s.name) f.xs)⟩:=by unfold zR;rw[if_neg hz]
  unfold qK at hd2 e
  have hz':=eq_false hz
  refine Fun.of (fun _=>[]) Tryz.func93 rfl (zi rfl) (by kernel_rfl) ?_;dsimp only[Tryz.f93]
  push_cast -dsimp
  refine cl (hg) ?_;push_cast -dsimp
  refine cl (hg2) ?_;push_cast -dsimp
  refine cl (hw) ?_;push_cast -dsimp
  (try simp only[lS]);repeat refine And.intro (by omega) ?_
  refine cl (hd1) ?_;push_cast -dsimp [hz']
  refine cl (hd2) ?_;push_cast -dsimp
  exact ⟨[],rfl,rfl,by push_cast -dsimp [zb,za,CLe,zd,e]⟩
theorem zd3 (f:FsV) (hf:FsI f) (hs:FsS f) (i:Int) (hi:zF i f.xs=true) (t:List UInt8) (ht:t.length<=10000):Fun Tryz.prog G0 127 [.agg (fsC f),.sc (.int .i64 i),.str t] (.tup [.agg (fsC (Ye f i t).1),.sc (.int .i64 (Ye f i t).2)]) 0:=by
 have hlen:=hs.len
 have hg:=qC (G:=G0) f i (by omega)
 rw[hi]at hg
 have hdl:=(hs.node _ (zk hi).2.1).2.1
 have hr:=VN (G:=G0) f hs 0 ((t.length:Int)-(zg i f.xs).data.length) (by omega) (by omega)
 have hst:=jV (G:=G0) f { zg i f.xs with data:=t } (by omega)
 cases hrm:Jl f 0 ((t.length:Int)-(zg i f.xs).data.length) with
 | false =>
  have e:Ye f i t=(f,8):=by unfold Ye;rw[hrm];rfl
  rw[hrm]at hr
  refine Fun.of (fun _=>[]) Tryz.func127 rfl (zi rfl) (by kernel_rfl) ?_;dsimp only[Tryz.f127]
  push_cast -dsimp
  refine cl (hg) ?_;push_cast -dsimp
  (try simp only[lS]);repeat refine And.intro (by omega) ?_
  refine cl (hr) ?_;push_cast -dsimp
  exact ⟨[],rfl,rfl,by push_cast -dsimp [zb,za,CLe,zd,e]⟩
 | true =>
  have e:Ye f i t=(xJ f i t,0):=by unfold Ye;rw[hrm];rfl
  have e2:xJ f i t=⟨f.maxI,f.maxB,f.next,qH { zg i f.xs with data:=t } f.xs⟩:=rfl
  rw[hrm]at hr
  refine Fun.of (fun _=>[]) Tryz.func127 rfl (zi rfl) (by kernel_rfl) ?_;dsimp only[Tryz.f127]
  push_cast -dsimp
  refine cl (hg) ?_;push_cast -dsimp
  (try simp only[lS]);repeat refine And.intro (by omega) ?_
  refine cl (hr) ?_;push_cast -dsimp
  refine cl (hst) ?_;push_cast -dsimp
  exact ⟨[],rfl,rfl,by push_cast -dsimp [zb,za,CLe,zd,e,e2]⟩
end
section
open CA CB
open Go.RowKit
theorem zfv (f:FsV) (hf:FsI f) (hs:FsS f) (a b:qM) (ha:qg f a) (hb:XG f b) (hb0:b.ino=0):Fun Tryz.prog G0 91 [.agg (fsC f),.agg (YB a),.agg (YB b)] (.agg (fsC (QD f a b))) 0:=by
 have hai:=qg.ino hf ha
 have hlen:=hs.len
 have hga:=qC (G:=G0) f a.dir (by omega)
 rw[ha.has]at hga
 have hwa:=Xr (G:=G0) (zg a.dir f.xs).es a.name (by have:=hs.es ha.has;omega)
 have hda:=jV (G:=G0) f (qr (zg a.dir f.xs) (zh a.name (zg a.dir f.xs).es)) (by omega)
 obtain ⟨g1,hg1⟩:∃ g1,qK a.dir (zh a.name) f.xs=g1:=⟨_,rfl⟩
 obtain ⟨g2,hg2⟩:∃ g2,qK b.dir (zY b.name a.ino) g1=g2:=⟨_,rfl⟩
 have hR1:qc g1:=by rw[←hg1];exact qd hf.rises
 have hl1:g1.length=f.xs.length:=by rw[←hg1];exact jM hf.rises ha.has
 have hb1:zF b.dir g1=true:=by rw[←hg1,qh ha.has];exact hb.has
 have hl2:g2.length=f.xs.length:=by rw[←hg2,jM hR1 hb1,hl1]
 have hi2:zF a.ino g2=true:=by rw[←hg2,qh hb1,←hg1,qh ha.has];exact hai
 have hgb:=qC (G:=G0) ⟨f.maxI,f.maxB,f.next,g1⟩ b.dir (by simp only;omega)
 simp only at hgb
 rw[hb1]at hgb
 have hres:(zg b.dir g1).es.length<=10000:=by
  rw[←hg1,JY ha.has]
  split
  ·show (JE zZ.name _ _).length<=10000
   have:=YE (key:=zZ.name) a.name (zg a.dir f.xs).es
   have:=hs.es ha.has
   omega
  ·exact hs.es hb.has
 have hwb:=V6 (G:=G0) (zg b.dir g1).es b.name a.ino (by omega)
 have hdb:=jV (G:=G0) ⟨f.maxI,f.maxB,f.next,g1⟩ (qr (zg b.dir g1) (zY b.name a.ino (zg b.dir g1).es)) (by simp only;omega)
 have hgx:=qC (G:=G0) ⟨f.maxI,f.maxB,f.next,g2⟩ a.ino (by simp only;omega)
 simp only at hgx
 rw[hi2]at hgx
 have e0:QD f a b=if (zg a.ino g2).kind=2 then ⟨f.maxI,f.maxB,f.next,qH { zg a.ino g2 with parent:=b.dir } g2⟩ else ⟨f.maxI,f.maxB,f.next,g2⟩:=by unfold QD;rw[hg1,hg2]
 have hda':Fun Tryz.prog G0 63 [.agg (fsC f),.agg (JU (qr (zg a.dir f.xs) (zh a.name (zg a.dir f.xs).es)))] (.agg [.sc (.int .i64 f.maxI),.sc (.int .i64 f.maxB),.sc (.int .i64 f.next),.own 0 75 6 (zp g1)]) 1:=by rw[←hg1];exact hda
 have hdb':Fun Tryz.prog G0 63 [.agg (fsC ⟨f.maxI,f.maxB,f.next,g1⟩),.agg (JU (qr (zg b.dir g1) (zY b.name a.ino (zg b.dir g1).es)))] (.agg [.sc (.int .i64 f.maxI),.sc (.int .i64 f.maxB),.sc (.int .i64 f.next),.own 0 75 6 (zp g2)]) 1:=by rw[←hg2];exact hdb
 have hb0':=eq_true hb0
 by_cases hk:(zg a.ino g2).kind=2
 ·rw[if_pos hk]at e0
  have hk':=eq_true hk
  have hd:=jV (G:=G0) ⟨f.maxI,f.maxB,f.next,g2⟩ { zg a.ino g2 with parent:=b.dir } (by simp only;omega)
  refine Fun.of (fun _=>[]) Tryz.func91 rfl (zi rfl) (by kernel_rfl) ?_;dsimp only[Tryz.f91]
  push_cast -dsimp [hb0']
  refine cl (hga) ?_;push_cast -dsimp
  refine cl (hwa) ?_;push_cast -dsimp
  refine cl (hda') ?_;push_cast -dsimp
  refine cl (hgb) ?_;push_cast -dsimp
  refine cl (hwb) ?_;push_cast -dsimp
  refine cl (hdb') ?_;push_cast -dsimp
  refine cl (hgx) ?_;push_cast -dsimp [hk']
  refine cl (hd) ?_;push_cast -dsimp
  exact ⟨[],rfl,rfl,by push_cast -dsimp [zb,za,CLe,zd,e0]⟩
 ·rw[if_neg hk]at e0
  have hk':=eq_false hk
  refine Fun.of (fun _=>[]) Tryz.func91 rfl (zi rfl) (by kernel_rfl) ?_;dsimp only[Tryz.f91]
  push_cast -dsimp [hb0']
  refine cl (hga) ?_;push_cast -dsimp
  refine cl (hwa) ?_;push_cast -dsimp
  refine cl (hda') ?_;push_cast -dsimp
  refine cl (hgb) ?_;push_cast -dsimp
  refine cl (hwb) ?_;push_cast -dsimp
  refine cl (hdb') ?_;push_cast -dsimp
  refine cl (hgx) ?_;push_cast -dsimp [hk']
  exact ⟨[],rfl,rfl,by push_cast -dsimp [zb,za,CLe,zd,e0]⟩
theorem Um {ks:List zN} {i:Nat} (h:i<ks.length):jQ (ks.take (i+1))=ks[i].slot:=by
 have q:(ks.take (i+1)).getLast?=some ks[i]:=by
  rw[List.getLast?_eq_getElem?,show (ks.take (i+1)).length-1=i by rw[List.length_take];omega,List.getElem?_take_of_lt (by omega),List.getElem?_eq_getElem h]
 unfold jQ
 rw[q]
section
variable {G:zm}
theorem Hb (w:qv) (n:Int) (hl:w.kept.length<=100000):Fun Tryz.prog G 95 [jv w,.sc (.int .i64 n)] (.tup [.agg (jS (Uf n w.kept)),.sc (.bool (UV n w.kept))]) 0:=by
 obtain ⟨f,ks,pool⟩:=w
 have hl:ks.length<=100000:=hl
 have hll:(zE ks).length=ks.length:=List.length_map ..
 show Fun Tryz.prog G 95 [jv ⟨f,ks,pool⟩,.sc (.int .i64 n)] (.tup [.agg (jS (Uf n ks)),.sc (.bool (UV n ks))]) 0
 refine Fun.of (fun _=>[]) Tryz.func95 rfl (zi rfl) (by kernel_rfl) ?_;dsimp only[Tryz.f95]
 push_cast -dsimp
 refine loop (fun i:Nat=>⟨[(1,.sc (.int .i64 n)),(2,.ptr 0 0),(4,.ptr 1 0),(6,.sc (.int .i64 i))],[kg ⟨f,ks,pool⟩,[.sc (.int .i64 0),.sc (.int .i64 0),.sc (.bool false),.str []]],0,0⟩) (fun i=>i<=ks.length/\JO zN.slot n (ks.take i)=false) (fun i=>ks.length-i) 0 ⟨Nat.zero_le _,rfl⟩ ?_ ?_
 ·exact zH.mk [] rfl rfl (Nat.zero_le _) rfl (by push_cast -dsimp [zb,za,CLe,zd]) (by push_cast -dsimp [zb,za,CLe,zd])
 ·rintro i ⟨h1,h2⟩
  by_cases h:i<ks.length
  ·have g1:=jj ks i h
   obtain ⟨q1,q2⟩:=kx h h2
   by_cases he:ks[i].slot=n
   ·have q:=q1 he
    have e1:UV n ks=true:=by unfold UV;rw[jB,q];rfl
    have e2:Uf n ks=ks[i]:=by unfold Uf;rw[q];rfl
    push_cast -dsimp [hll,h,g1,he]
    (try simp only[lS]);repeat refine And.intro (by omega) ?_
    exact ⟨[],rfl,rfl,by push_cast -dsimp [zb,za,CLe,zd,e1,e2,he]⟩
   ·push_cast -dsimp [hll,h,g1,he]
    (try simp only[lS]);repeat refine And.intro (by omega) ?_
    exact ⟨i+1,⟨h,q2 he⟩,by omega,zH.mk [] rfl rfl (Nat.zero_le _) rfl (by push_cast -dsimp [zb,za,CLe,zd]) (by push_cast -dsimp [zb,za,CLe,zd])⟩
  ·rw[List.take_of_length_le (by omega)]at h2
   have e1:UV n ks=false:=h2
   have e2:Uf n ks=zeq:=by unfold Uf;rw[vA h2];rfl
   push_cast -dsimp [hll,h]
   exact ⟨[],rfl,rfl,by push_cast -dsimp [zb,za,CLe,zd,e1,e2,zeq]⟩
theorem ZA (w:qv) (k:zN) (hl:w.kept.length<=90000):Fun Tryz.prog G 130 [jv w,.agg (jS k)] (jv { w with kept:=qu k w.kept }) 0:=by
 obtain ⟨f,ks,pool⟩:=w
 have hl:ks.length<=90000:=hl
 have hll:(zE ks).length=ks.length:=List.length_map ..
 show Fun Tryz.prog G 130 [jv ⟨f,ks,pool⟩,.agg (jS k)] (jv ⟨f,Xa jD zN.slot k ks,pool⟩) 0
 refine Fun.of (fun _=>[]) Tryz.func130 rfl (zi rfl) (by kernel_rfl) ?_;dsimp only[Tryz.f130]
 push_cast -dsimp
 refine loop (fun p:Nat×List zN×Bool=>⟨[(2,.ptr 0 0),(3,.ptr 1 0),(4,.ptr 2 0),(5,.own 0 92 4 (zE p.2.1)),(6,.sc (.bool p.2.2)),(7,.sc (.int .i64 p.1))],[kg ⟨f,ks,pool⟩,jS k,[.sc (.int .i64 0),.sc (.int .i64 0),.sc (.int .i64 0),.sc (.slice none 0 0),.sc (.slice none 0 0),.sc (.slice none 0 0)]],1,0⟩)
  (fun p=>p.1<=ks.length/\p.2.1.length<=p.1+p.2.2.toNat/\Xa jD zN.slot k ks=p.2.1++(if p.2.2 then ks.drop p.1 else Xa jD zN.slot k (ks.drop p.1))) (fun p=>ks.length-p.1) (0,[],false) ⟨Nat.zero_le _,Nat.zero_le _,by simp⟩ ?_ ?_
 ·exact zH.mk [.inr (92,4)] rfl rfl (Nat.zero_le _) rfl (by push_cast -dsimp [zb,za,CLe,zd]) (by push_cast -dsimp [zb,za,CLe,zd])
 ·rintro ⟨i,out,d⟩ ⟨h1,h2,h3⟩
  dsimp only at h1 h2 h3 ⊢
  have hlo:(zE out).length=out.length:=List.length_map ..
  by_cases h:i<ks.length
  ·have g1:=jj ks i h
   rw[List.drop_eq_getElem_cons h]at h3
   cases d with
   | true =>
    simp only[Bool.toNat_true]at h2
    push_cast -dsimp [hll,h,g1]
    (try simp only[lS]);repeat refine And.intro (by omega) ?_
    exact ⟨(i+1,out++[ks[i]],true),⟨h,by simp;omega,by rw[h3];simp⟩,by dsimp only;omega,zH.mk [.inl 0] rfl rfl (Nat.zero_le _) rfl (by push_cast -dsimp [zb,za,CLe,zd,List.map_append]) (by push_cast -dsimp [zb,za,CLe,zd])⟩
   | false =>
    simp only[Bool.false_eq_true,if_false,Xa]at h3
    simp only[Bool.toNat_false]at h2
    by_cases hc:k.slot<ks[i].slot
    ·rw[if_pos (show jD.lt k.slot ks[i].slot=true from decide_eq_true hc)]at h3
     push_cast -dsimp [hll,h,g1,hc]
     (try simp only[lS]);repeat refine And.intro (by omega) ?_
     exact ⟨(i+1,out++[k]++[ks[i]],true),⟨h,by simp;omega,by rw[h3];simp⟩,by dsimp only;omega,zH.mk [.inl 0] rfl rfl (Nat.zero_le _) rfl (by push_cast -dsimp [zb,za,CLe,zd,List.map_append]) (by push_cast -dsimp [zb,za,CLe,zd])⟩
    ·rw[if_neg (show ¬jD.lt k.slot ks[i].slot=true by rw[show jD.lt k.slot ks[i].slot=false from decide_eq_false hc];decide)]at h3
     push_cast -dsimp [hll,h,g1,hc]
     (try simp only[lS]);repeat refine And.intro (by omega) ?_
     exact ⟨(i+1,out++[ks[i]],false),⟨h,by simp;omega,by rw[h3];simp⟩,by dsimp only;omega,zH.mk [.inl 0] rfl rfl (Nat.zero_le _) rfl (by push_cast -dsimp [zb,za,CLe,zd,List.map_append]) (by push_cast -dsimp [zb,za,CLe,zd])⟩
  ·rw[List.drop_of_length_le (by omega)]at h3
   cases d with
   | true =>
    simp only[Bool.toNat_true]at h2
    have h3:Xa jD zN.slot k ks=out:=by rw[h3];simp
    push_cast -dsimp [hll,h]
    exact ⟨[],rfl,rfl,by push_cast -dsimp [zb,za,CLe,zd,h3]⟩
   | false =>
    simp only[Bool.toNat_false]at h2
    have h3:Xa jD zN.slot k ks=out++[k]:=by rw[h3];simp[Xa]
    push_cast -dsimp [hll,h]
    (try simp only[lS]);repeat refine And.intro (by omega) ?_
    exact ⟨[],rfl,rfl,by push_cast -dsimp [zb,za,CLe,zd,h3,List.map_append]⟩
theorem Q3 (w:qv):Fun Tryz.prog G 50 [jv w] (.agg [.sc (.int .i64 0),.sc (.int .i64 0),.sc (.int .i64 0),.sl 6 (zp w.pool)]) 0:=by
 refine Fun.of (fun _=>[]) Tryz.func50 rfl (zi rfl) (by kernel_rfl) ?_;dsimp only[Tryz.f50]
 push_cast -dsimp
 exact ⟨[],rfl,rfl,by push_cast -dsimp [zb,za,CLe,zd]⟩
theorem NQ (w:qv) (hk:w.kept.length<=100000) (hR:qF jD zN.slot w.kept) (hp:∀ k∈w.kept,1<=k.slot):Fun Tryz.prog G 22 [jv w] (.sc (.int .i64 (jQ w.kept))) 0:=by
 obtain ⟨f,ks,pool⟩:=w
 have hk:ks.length<=100000:=hk
 have hll:(zE ks).length=ks.length:=List.length_map ..
 show Fun Tryz.prog G 22 [jv ⟨f,ks,pool⟩] (.sc (.int .i64 (jQ ks))) 0
 have h0:jQ []=0:=rfl
 refine Fun.of (fun _=>[]) Tryz.func22 rfl (zi rfl) (by kernel_rfl) ?_;dsimp only[Tryz.f22]
 push_cast -dsimp
 refine loop (fun i:Nat=>⟨[(1,.ptr 0 0),(3,.sc (.int .i64 (jQ (ks.take i)))),(4,.sc (.int .i64 i))],[kg ⟨f,ks,pool⟩],0,0⟩) (fun i=>i<=ks.length) (fun i=>ks.length-i) 0 (Nat.zero_le _) ?_ ?_
 ·exact zH.mk [] rfl rfl (Nat.zero_le _) rfl (by push_cast -dsimp [zb,za,CLe,zd,List.take_zero,h0]) (by push_cast -dsimp [zb,za,CLe,zd])
 ·intro i hi
  by_cases h:i<ks.length
  ·have g1:=jj ks i h
   have e1:jQ (ks.take (i+1))=ks[i].slot:=Um h
   have e2:(if ks[i].slot>jQ (ks.take i) then ks[i].slot else jQ (ks.take i))=ks[i].slot:=by
    suffices hle:jQ (ks.take i)<=ks[i].slot by split<;>omega
    rcases Nat.eq_zero_or_pos i with rfl | hpos
    ·have:=hp _ (List.getElem_mem h)
     show (0:Int)<=_
     omega
    ·obtain ⟨j,rfl⟩:∃ j,i=j+1:=⟨i-1,by omega⟩
     have hj:j<ks.length:=by omega
     rw[Um hj]
     have:=(List.pairwise_iff_getElem.1 hR) j (j+1) hj h (by omega)
     have:ks[j].slot<ks[j+1].slot:=of_decide_eq_true this
     omega
   push_cast -dsimp [hll,h,g1]
   (try simp only[lS]);repeat refine And.intro (by omega) ?_
   exact ⟨i+1,h,by omega,zH.mk [] rfl rfl (Nat.zero_le _) rfl (by push_cast -dsimp [zb,za,CLe,zd,e1,e2]) (by push_cast -dsimp [zb,za,CLe,zd])⟩
  ·rw[List.take_of_length_le (by omega)]
   push_cast -dsimp [hll,h]
   exact ⟨[],rfl,rfl,by push_cast -dsimp [zb,za,CLe,zd]⟩
end
end
section
open CA CB
open Go.RowKit
theorem Ht (w:qv) (hs:FsS w.fs) (hk:w.kept.length<=90000) (n i:Int):Fun Tryz.prog G0 126 [jv w,.sc (.int .i64 n),.sc (.int .i64 i)] (.tup [jv (zV w n i).1,.sc (.int .i64 (zV w n i).2)]) 0:=by
 have hlen:=hs.len
 have h1:=Hb (G:=G0) w n (by omega)
 cases hh:UV n w.kept with
 | true =>
  have e:zV w n i=(w,13):=by unfold zV;rw[hh];rfl
  rw[hh]at h1
  refine Fun.of (fun _=>[]) Tryz.func126 rfl (zi rfl) (by kernel_rfl) ?_;dsimp only[Tryz.f126]
  push_cast -dsimp
  refine cl (h1) ?_;push_cast -dsimp
  exact ⟨[],rfl,rfl,by push_cast -dsimp [zb,za,CLe,zd,e]⟩
 | false =>
  have e:zV w n i=({ w with kept:=qu ⟨n,i,true,(zg i w.fs.xs).data⟩ w.kept },0):=by unfold zV;rw[hh];rfl
  rw[hh]at h1
  have hg:=qC (G:=G0) w.fs i (by omega)
  have hw:=ZA (G:=G0) w ⟨n,i,true,(zg i w.fs.xs).data⟩ hk
  refine Fun.of (fun _=>[]) Tryz.func126 rfl (zi rfl) (by kernel_rfl) ?_;dsimp only[Tryz.f126]
  push_cast -dsimp
  refine cl (h1) ?_;push_cast -dsimp
  refine cl (hg) ?_;push_cast -dsimp
  refine cl (hw) ?_;push_cast -dsimp
  exact ⟨[],rfl,rfl,by push_cast -dsimp [zb,za,CLe,zd,e]⟩
theorem zdf (w:qv) (hw:Xc w) (hs:FsS w.fs) (hk:w.kept.length<=90000) (hp:w.pool.length<=90000) (n:Int) (s:qM) (hsp:qg w.fs s):Fun Tryz.prog G0 92 [jv w,.sc (.int .i64 n),.agg (YB s)] (.tup [jv (JM w n s).1,.sc (.int .i64 (JM w n s).2)]) 0:=by
 have hf:=hw.fs
 have hlen:=hs.len
 have hino:=hsp.ino hf
 have h1:=Hb (G:=G0) w n (by omega)
 cases hh:UV n w.kept with
 | true =>
  have e:JM w n s=(w,13):=by unfold JM;rw[hh];rfl
  rw[hh]at h1
  refine Fun.of (fun j=>if j=9 then [false,false,false,false,false,false,false,true] else []) Tryz.func92 rfl (zi rfl) (by kernel_rfl) ?_;dsimp only[Tryz.f92]
  push_cast -dsimp
  refine cl (h1) ?_;push_cast -dsimp
  exact ⟨[],rfl,rfl,by push_cast -dsimp [zb,za,CLe,zd,e]⟩
 | false =>
  rw[hh]at h1
  have hg:=qC (G:=G0) w.fs s.ino (by omega)
  rw[hino]at hg
  have hu:=yk w.fs hf hs s hsp
  by_cases hz:(zg s.ino w.fs.xs).links=1
  ·have e:JM w n s=(⟨zR w.fs s,qu ⟨n,s.ino,false,[]⟩ w.kept,qH { zg s.ino w.fs.xs with links:=0,parent:=0 } w.pool⟩,0):=by unfold JM;rw[hh,if_pos hz];rfl
   have hz':=eq_true hz
   have hpo:=Q3 (G:=G0) ⟨zR w.fs s,w.kept,w.pool⟩
   have hst:=jV (G:=G0) ⟨0,0,0,w.pool⟩ { zg s.ino w.fs.xs with links:=0,parent:=0 } hp
   have hwi:=ZA (G:=G0) ⟨zR w.fs s,w.kept,qH { zg s.ino w.fs.xs with links:=0,parent:=0 } w.pool⟩ ⟨n,s.ino,false,[]⟩ hk
   refine Fun.of (fun j=>if j=9 then [false,false,false,false,false,false,false,true] else []) Tryz.func92 rfl (zi rfl) (by kernel_rfl) ?_;dsimp only[Tryz.f92]
   push_cast -dsimp
   refine cl (h1) ?_;push_cast -dsimp
   refine cl (hg) ?_;push_cast -dsimp
   refine cl (hu) ?_;push_cast -dsimp [hz']
   refine cl (hpo) ?_;push_cast -dsimp
   refine cl (hst) ?_;push_cast -dsimp
   refine cl (hwi) ?_;push_cast -dsimp
   exact ⟨[],rfl,rfl,by push_cast -dsimp [zb,za,CLe,zd,e]⟩
  ·have e:JM w n s=(⟨zR w.fs s,qu ⟨n,s.ino,false,[]⟩ w.kept,w.pool⟩,0):=by unfold JM;rw[hh,if_neg hz];rfl
   have hz':=eq_false hz
   have hwi:=ZA (G:=G0) ⟨zR w.fs s,w.kept,w.pool⟩ ⟨n,s.ino,false,[]⟩ hk
   refine Fun.of (fun j=>if j=9 then [false,false,false,false,false,false,false,true] else []) Tryz.func92 rfl (zi rfl) (by kernel_rfl) ?_;dsimp only[Tryz.f92]
   push_cast -dsimp
   refine cl (h1) ?_;push_cast -dsimp
   refine cl (hg) ?_;push_cast -dsimp
   refine cl (hu) ?_;push_cast -dsimp [hz']
   refine cl (hwi) ?_;push_cast -dsimp
   exact ⟨[],rfl,rfl,by push_cast -dsimp [zb,za,CLe,zd,e]⟩
theorem Qf (f:FsV) (hf:FsI f) (hs:FsS f) (p:List UInt8) (hp:p.length<=100000) (b:Bool):Fun Tryz.prog G0 89 [.agg (fsC f),.str p,.sc (.int .i64 (if b then 1 else 0))] (.tup [.agg (YB (isV f p b).1),.agg (JU (isV f p b).2.1),.sc (.int .i64 (isV f p b).2.2)]) 0:=by
 have hlen:=hs.len
 have h1:=zjF f hf hs p hp
 have h2:=qC (G:=G0) f (atV f p).1.ino (by omega)
 have e1:(isV f p b).1=(atV f p).1:=rfl
 have e2:(isV f p b).2.1=zg (atV f p).1.ino f.xs:=rfl
 have e3:(isV f p b).2.2=if (atV f p).2≠0 then (atV f p).2 else if b&&!zF (atV f p).1.ino f.xs then 1 else if !b&&zF (atV f p).1.ino f.xs then 2 else 0:=rfl
 by_cases h0:(atV f p).2=0
 ·rw[if_neg (fun h=>h h0)]at e3
  have h0':=eq_true h0
  rw[h0]at h1
  cases hb:b with
  | true =>
   subst hb
   cases hh:zF (atV f p).1.ino f.xs with
   | true =>
    rw[hh]at h2 e3
    simp only[Bool.true_and,Bool.not_true,Bool.false_and,if_false,Bool.false_eq_true]at e3
    refine Fun.of (fun i=>if i=7 then kN [(0,.pure),(1,.pure),(2,.pure),(3,.flt [1,2]),(4,.flt [2]),(5,.pure)] else []) Tryz.func89 rfl (zi rfl) (by kernel_rfl) ?_;dsimp only[Tryz.f89]
    push_cast -dsimp [if_true]
    refine cl (h1) ?_;push_cast -dsimp
    refine cl (h2) ?_;push_cast -dsimp
    exact ⟨[],rfl,rfl,by push_cast -dsimp [zb,za,CLe,zd,e1,e2,e3]⟩
   | false =>
    rw[hh]at h2 e3
    simp only[Bool.true_and,Bool.not_false,if_true]at e3
    refine Fun.of (fun i=>if i=7 then kN [(0,.pure),(1,.pure),(2,.pure),(3,.flt [1,2]),(4,.flt [2]),(5,.pure)] else []) Tryz.func89 rfl (zi rfl) (by kernel_rfl) ?_;dsimp only[Tryz.f89]
    push_cast -dsimp [if_true]
    refine cl (h1) ?_;push_cast -dsimp
    refine cl (h2) ?_;push_cast -dsimp
    exact ⟨[],rfl,rfl,by push_cast -dsimp [zb,za,CLe,zd,e1,e2,e3]⟩
  | false =>
   subst hb
   cases hh:zF (atV f p).1.ino f.xs with
   | true =>
    rw[hh]at h2 e3
    simp only[Bool.false_and,Bool.not_false,Bool.true_and,if_true,if_false,Bool.false_eq_true]at e3
    refine Fun.of (fun i=>if i=7 then kN [(0,.pure),(1,.pure),(2,.pure),(3,.flt [1,2]),(4,.flt [2]),(5,.pure)] else []) Tryz.func89 rfl (zi rfl) (by kernel_rfl) ?_;dsimp only[Tryz.f89]
    push_cast -dsimp [Bool.false_eq_true,if_false]
    refine cl (h1) ?_;push_cast -dsimp
    refine cl (h2) ?_;push_cast -dsimp
    exact ⟨[],rfl,rfl,by push_cast -dsimp [zb,za,CLe,zd,e1,e2,e3]⟩
   | false =>
    rw[hh]at h2 e3
    simp only[Bool.false_and,Bool.not_false,Bool.true_and,if_false,Bool.false_eq_true]at e3
    refine Fun.of (fun i=>if i=7 then kN [(0,.pure),(1,.pure),(2,.pure),(3,.flt [1,2]),(4,.flt [2]),(5,.pure)] else []) Tryz.func89 rfl (zi rfl) (by kernel_rfl) ?_;dsimp only[Tryz.f89]
    push_cast -dsimp [Bool.false_eq_true,if_false]
    refine cl (h1) ?_;push_cast -dsimp
    refine cl (h2) ?_;push_cast -dsimp
    exact ⟨[],rfl,rfl,by push_cast -dsimp [zb,za,CLe,zd,e1,e2,e3]⟩
 ·rw[if_pos h0]at e3
  have h0':=eq_false h0
  refine Fun.of (fun i=>if i=7 then kN [(0,.pure),(1,.pure),(2,.pure),(3,.flt [1,2]),(4,.flt [2]),(5,.pure)] else []) Tryz.func89 rfl (zi rfl) (by kernel_rfl) ?_;dsimp only[Tryz.f89]
  push_cast -dsimp
  refine cl (h1) ?_;push_cast -dsimp
  refine cl (h2) ?_;push_cast -dsimp [h0']
  exact ⟨[],rfl,rfl,by push_cast -dsimp [zb,za,CLe,zd,e1,e2,e3]⟩
theorem UT (f:FsV) (hf:FsI f) (hs:FsS f) (p:List UInt8) (hp:p.length<=100000):Fun Tryz.prog G0 87 [.agg (fsC f),.str p] (.tup [.agg (JU (zM f p).1),.sc (.int .i64 (zM f p).2)]) 0:=by
 have h1:=Qf f hf hs p hp true
 rw[if_pos rfl]at h1
 have e1:(zM f p).1=(isV f p true).2.1:=rfl
 have e2:(zM f p).2=if (isV f p true).2.2≠0 then (isV f p true).2.2 else if (isV f p true).2.1.kind=2 then 4 else if (isV f p true).2.1.kind=3 then 9 else 0:=rfl
 by_cases h0:(isV f p true).2.2=0
 ·rw[if_neg (fun h=>h h0)]at e2
  have h0':=eq_true h0
  rw[h0]at h1
  by_cases hk:(isV f p true).2.1.kind=2
  ·rw[if_pos hk]at e2
   have hk':=eq_true hk
   refine Fun.of (fun _=>[]) Tryz.func87 rfl (zi rfl) (by kernel_rfl) ?_;dsimp only[Tryz.f87]
   push_cast -dsimp
   refine cl (h1) ?_;push_cast -dsimp [hk']
   exact ⟨[],rfl,rfl,by push_cast -dsimp [zb,za,CLe,zd,e1,e2]⟩
  ·rw[if_neg hk]at e2
   have hk':=eq_false hk
   by_cases hk3:(isV f p true).2.1.kind=3
   ·rw[if_pos hk3]at e2
    have hk3':=eq_true hk3
    refine Fun.of (fun _=>[]) Tryz.func87 rfl (zi rfl) (by kernel_rfl) ?_;dsimp only[Tryz.f87]
    push_cast -dsimp
    refine cl (h1) ?_;push_cast -dsimp [hk',hk3']
    exact ⟨[],rfl,rfl,by push_cast -dsimp [zb,za,CLe,zd,e1,e2]⟩
   ·rw[if_neg hk3]at e2
    have hk3':=eq_false hk3
    refine Fun.of (fun _=>[]) Tryz.func87 rfl (zi rfl) (by kernel_rfl) ?_;dsimp only[Tryz.f87]
    push_cast -dsimp
    refine cl (h1) ?_;push_cast -dsimp [hk',hk3']
    exact ⟨[],rfl,rfl,by push_cast -dsimp [zb,za,CLe,zd,e1,e2]⟩
 ·rw[if_pos h0]at e2
  have h0':=eq_false h0
  refine Fun.of (fun _=>[]) Tryz.func87 rfl (zi rfl) (by kernel_rfl) ?_;dsimp only[Tryz.f87]
  push_cast -dsimp
  refine cl (h1) ?_;push_cast -dsimp [h0']
  exact ⟨[],rfl,rfl,by push_cast -dsimp [zb,za,CLe,zd,e1,e2]⟩
theorem UG (w:qv) (hw:Xc w) (hs:Vx w) (p:List UInt8) (hp:p.length<=100000) (hpl:zO p=true) (k:Int) (t:List UInt8) (ht:t.length<=10000):Fun Tryz.prog G0 86 [jv w,.str p,.sc (.int .i64 k),.str t] (.tup [jv (Je w p k t).1,.sc (.int .i64 (Je w p k t).2)]) 0:=by
 have h1:=Qf w.fs hw.fs hs.fs p hp false
 rw[if_neg (by decide)]at h1
 by_cases h0:(isV w.fs p false).2.2=0
 ·have h0':=eq_true h0
  have hfr:=JF hw.fs hpl h0
  have hln:=y7 hw.fs hpl (Zz h0)
  have hln:(isV w.fs p false).1.name.length<=300:=hln
  have hc:=yW w.fs hw.fs hs.fs hs.next (isV w.fs p false).1 hfr (by omega) k t (by omega)
  have e:Je w p k t=({ w with fs:=(Zj w.fs (isV w.fs p false).1 k t).1 },(Zj w.fs (isV w.fs p false).1 k t).2):=by unfold Je;rw[if_neg (fun h=>h h0)]
  rw[h0]at h1
  refine Fun.of (fun _=>[]) Tryz.func86 rfl (zi rfl) (by kernel_rfl) ?_;dsimp only[Tryz.f86]
  push_cast -dsimp
  refine cl (h1) ?_;push_cast -dsimp
  refine cl (hc) ?_;push_cast -dsimp
  exact ⟨[],rfl,rfl,by push_cast -dsimp [zb,za,CLe,zd,e]⟩
 ·have h0':=eq_false h0
  have e:Je w p k t=(w,(isV w.fs p false).2.2):=by unfold Je;rw[if_pos h0]
  refine Fun.of (fun _=>[]) Tryz.func86 rfl (zi rfl) (by kernel_rfl) ?_;dsimp only[Tryz.f86]
  push_cast -dsimp
  refine cl (h1) ?_;push_cast -dsimp [h0']
  exact ⟨[],rfl,rfl,by push_cast -dsimp [zb,za,CLe,zd,e]⟩
theorem MB (w:qv) (hw:Xc w) (hs:Vx w) (o:OpV) (ho:short o) (pa:zO o.a=true) (pb:zO o.b=true):Fun Tryz.prog G0 88 [jv w,.agg (opL o)] (.tup [jv (zT w o).1,.sc (.int .i64 (zT w o).2)]) 0:=by
 obtain ⟨k,s,a,b,d⟩:=o
 obtain ⟨la,lb,_⟩:=ho
 have la:a.length<=100000:=la
 have lb:b.length<=100000:=lb
 have h1:=UT w.fs hw.fs hs.fs a la
 have h2:=UT w.fs hw.fs hs.fs b lb
 by_cases c1:(zM w.fs a).2=0
 case neg =>
  have c1':=eq_false c1
  have e:zT w ⟨k,s,a,b,d⟩=(w,(zM w.fs a).2):=by unfold zT;rw[if_pos c1]
  unfold opL
  refine Fun.of (fun _=>[]) Tryz.func88 rfl (zi rfl) (by kernel_rfl) ?_;dsimp only[Tryz.f88]
  push_cast -dsimp
  refine cl (h1) ?_;push_cast -dsimp [c1']
  exact ⟨[],rfl,rfl,by push_cast -dsimp [zb,za,CLe,zd,e]⟩
 have f1:=Q5 hw hs pa c1
 rw[c1]at h1
 by_cases c2:(zM w.fs b).2=0
 case neg =>
  have c2':=eq_false c2
  have e:zT w ⟨k,s,a,b,d⟩=(w,(zM w.fs b).2):=by unfold zT;rw[if_neg (fun h=>h c1),if_pos c2]
  unfold opL
  refine Fun.of (fun _=>[]) Tryz.func88 rfl (zi rfl) (by kernel_rfl) ?_;dsimp only[Tryz.f88]
  push_cast -dsimp
  refine cl (h1) ?_;push_cast -dsimp
  refine cl (h2) ?_;push_cast -dsimp [c2']
  exact ⟨[],rfl,rfl,by push_cast -dsimp [zb,za,CLe,zd,e]⟩
 rw[c2]at h2
 have f2:=(Qj hw.fs pb c2).1
 by_cases c3:(zM w.fs a).1.ino=(zM w.fs b).1.ino
 ·have c3':=eq_true c3
  have e:zT w ⟨k,s,a,b,d⟩=(w,9):=by unfold zT;rw[if_neg (fun h=>h c1),if_neg (fun h=>h c2),if_pos c3]
  unfold opL
  refine Fun.of (fun _=>[]) Tryz.func88 rfl (zi rfl) (by kernel_rfl) ?_;dsimp only[Tryz.f88]
  push_cast -dsimp
  refine cl (h1) ?_;push_cast -dsimp
  refine cl (h2) ?_;push_cast -dsimp [c3']
  exact ⟨[],rfl,rfl,by push_cast -dsimp [zb,za,CLe,zd,e]⟩
 have c3':=eq_false c3
 have h3:=Ht w hs.fs (by have:=hs.kept;omega) s (zM w.fs b).1.ino
 by_cases c4:(zV w s (zM w.fs b).1.ino).2=0
 case neg =>
  have c4':=eq_false c4
  have e:zT w ⟨k,s,a,b,d⟩=(w,(zV w s (zM w.fs b).1.ino).2):=by unfold zT;rw[if_neg (fun h=>h c1),if_neg (fun h=>h c2),if_neg c3,if_pos c4]
  unfold opL
  refine Fun.of (fun _=>[]) Tryz.func88 rfl (zi rfl) (by kernel_rfl) ?_;dsimp only[Tryz.f88]
  push_cast -dsimp
  refine cl (h1) ?_;push_cast -dsimp
  refine cl (h2) ?_;push_cast -dsimp [c3']
  refine cl (h3) ?_;push_cast -dsimp [c4']
  exact ⟨[],rfl,rfl,by push_cast -dsimp [zb,za,CLe,zd,e]⟩
 rw[c4]at h3
 have efs:(zV w s (zM w.fs b).1.ino).1.fs=w.fs:=by unfold zV;split<;>rfl
 have h4:=zd3 w.fs hw.fs hs.fs (zM w.fs b).1.ino f2 (zM w.fs a).1.data f1
 by_cases c5:(Ye w.fs (zM w.fs b).1.ino (zM w.fs a).1.data).2=0
 case neg =>
  have c5':=eq_false c5
  have e:zT w ⟨k,s,a,b,d⟩=(w,(Ye w.fs (zM w.fs b).1.ino (zM w.fs a).1.data).2):=by unfold zT;rw[if_neg (fun h=>h c1),if_neg (fun h=>h c2),if_neg c3,if_neg (fun h=>h c4),if_pos c5]
  unfold opL
  refine Fun.of (fun _=>[]) Tryz.func88 rfl (zi rfl) (by kernel_rfl) ?_;dsimp only[Tryz.f88]
  push_cast -dsimp
  refine cl (h1) ?_;push_cast -dsimp
  refine cl (h2) ?_;push_cast -dsimp [c3']
  refine cl (h3) ?_;push_cast -dsimp [efs]
  refine cl (h4) ?_;push_cast -dsimp [c5']
  exact ⟨[],rfl,rfl,by push_cast -dsimp [zb,za,CLe,zd,e]⟩
 rw[c5]at h4
 have e:zT w ⟨k,s,a,b,d⟩=({ (zV w s (zM w.fs b).1.ino).1 with fs:=(Ye w.fs (zM w.fs b).1.ino (zM w.fs a).1.data).1 },0):=by unfold zT;rw[if_neg (fun h=>h c1),if_neg (fun h=>h c2),if_neg c3,if_neg (fun h=>h c4),if_neg (fun h=>h c5)]
 unfold opL
 refine Fun.of (fun _=>[]) Tryz.func88 rfl (zi rfl) (by kernel_rfl) ?_;dsimp only[Tryz.f88]
 push_cast -dsimp
 refine cl (h1) ?_;push_cast -dsimp
 refine cl (h2) ?_;push_cast -dsimp [c3']
 refine cl (h3) ?_;push_cast -dsimp [efs]
 refine cl (h4) ?_;push_cast -dsimp
 exact ⟨[],rfl,rfl,by push_cast -dsimp [zb,za,CLe,zd,e]⟩
end
section
open CA CB
open Go.RowKit
def zp6 (n:Int):List C:=[.sc (.int .i64 n)]
abbrev zpk (l:List Int):List (List C):=l.map zp6
theorem M7 (l:List Int):(zpk l).length=l.length:=List.length_map _
theorem zdh (l:List Int) (n:Int):zpk l++[[.sc (.int .i64 n)]]=zpk (l++[n]):=by simp[zp6]
attribute [push_cast] M7 zdh
abbrev GQ (l:List OpV):List (List C):=l.map opL
theorem Qc (l:List OpV):(GQ l).length=l.length:=List.length_map _
theorem Hp (l:List OpV) (k:Nat) (h:k<l.length):(GQ l)[k]?=some (opL (l[k]'h)):=by rw[List.getElem?_map,List.getElem?_eq_getElem h];rfl
theorem zc2 (l:List OpV) (k:Nat):(GQ l).take k=GQ (l.take k):=List.map_take.symm
theorem zdy (l:List OpV) (k:Nat):(GQ l).drop k=GQ (l.drop k):=List.map_drop.symm
attribute [push_cast] Qc zc2 zdy
end
section
open Go.RowKit
end
section
open Go.RowKit
def zi1 (o p:OpV):Bool:=decide (o.kind=p.kind)&&decide (o.slot=p.slot)&&decide (o.a=p.a)&&decide (o.b=p.b)&&decide (o.d=p.d)
def Yb:List OpV->List OpV->Bool
 | [],[]=>true
 | o :: r,p :: s=>zi1 o p&&Yb r s
 | _,_=>false
theorem J7:∀ l m:List OpV,Yb l m=true↔l.length=m.length/\∀ (j:Nat) (h:j<l.length) (h':j<m.length),zi1 (l[j]'h) (m[j]'h')=true
 | [],[]=>by simp[Yb]
 | [],p :: s=>by simp[Yb]
 | o :: r,[]=>by simp[Yb]
 | o :: r,p :: s=>by
  have ih:=J7 r s
  simp only[Yb,Bool.and_eq_true,ih,List.length_cons]
  constructor
  ·rintro ⟨h1,h2,h3⟩
   refine ⟨by omega,fun j hj hj'=>?_⟩
   cases j with
   | zero=>exact h1
   | succ j=>exact h3 j (by omega) (by omega)
  ·rintro ⟨h1,h2⟩
   exact ⟨h2 0 (by omega) (by omega),by omega,fun j hj hj'=>h2 (j+1) (by omega) (by omega)⟩
end
section
open CA CB
open Go.RowKit
theorem kX (p:List UInt8) (hp:p.length<=100000):Fun Tryz.prog G0 83 [.str p] (qD (zO p)) 0:=by
 have h:=Z0 p hp
 unfold Yl at h
 cases hb:Yk p with
 | false =>
  rw[hb]at h
  refine Fun.of (fun _=>[]) Tryz.func83 rfl (zi rfl) (by kernel_rfl) ?_;dsimp only[Tryz.f83]
  push_cast -dsimp
  refine cl (h) ?_;push_cast -dsimp
  exact ⟨[],rfl,rfl,by push_cast -dsimp [zb,za,CLe,zd];simp[zO,hb]⟩
 | true =>
  rw[hb,if_pos rfl]at h
  refine Fun.of (fun _=>[]) Tryz.func83 rfl (zi rfl) (by kernel_rfl) ?_;dsimp only[Tryz.f83]
  push_cast -dsimp
  refine cl (h) ?_;push_cast -dsimp
  refine ⟨[],rfl,rfl,?_⟩
  push_cast -dsimp [zb,za,CLe,zd]
  by_cases hn:zJ p = []
  ·simp[zO,hb,hn]
  ·have:=List.length_pos_iff.2 hn
   simp[zO,hb,hn,this]
theorem yP (s:List UInt8) (hs:s.length<=1000000):Fun Tryz.prog G0 84 [.str s] (qD (Y5 s)) 0:=by
 refine Fun.of (fun _=>[]) Tryz.func84 rfl (zi rfl) (by kernel_rfl) ?_;dsimp only[Tryz.f84]
 push_cast -dsimp
 refine loop (fun k:Nat=>⟨[(0,.str s),(3,.sc (.int .i64 k))],[],0,0⟩) (fun k=>k<=s.length/\∀ j (hj:j<s.length),j<k->decide (s[j]'hj=0)=false) (fun k=>s.length-k) 0 ⟨Nat.zero_le _,fun j _ hj=>by omega⟩ ?_ ?_
 ·exact zH.mk [] rfl rfl (Nat.zero_le _) rfl (by push_cast -dsimp [zb,za,CLe,zd]) (by push_cast -dsimp [zb,za,CLe,zd])
 ·intro k hk
  have hk1:=hk.1
  have hk2:=hk.2
  by_cases h:k<s.length
  ·have hb:s[k]?=some (s[k]'h):=List.getElem?_eq_getElem h
   by_cases h0:s[k]'h=0
   ·have h1:((s[k]'h).toNat:Int)=0:=by rw[h0];rfl
    push_cast -dsimp [h,hb,h1]
    refine ⟨by omega,[],rfl,rfl,?_⟩
    push_cast -dsimp [zb,za,CLe,zd]
    have:s.any (fun b=>decide (b=0))=true:=List.any_eq_true.2 ⟨s[k]'h,List.getElem_mem h,by simpa using h0⟩
    simp[Y5,this]
   ·have h1:¬((s[k]'h).toNat:Int)=0:=zh7 h0
    push_cast -dsimp [h,hb,h1]
    (try simp only[lS]);repeat refine And.intro (by omega) ?_
    refine ⟨k+1,⟨by omega,fun j hj hjk=>?_⟩,by omega,zH.mk [] rfl rfl (Nat.zero_le _) rfl (by push_cast -dsimp [zb,za,CLe,zd]) (by push_cast -dsimp [zb,za,CLe,zd])⟩
    rcases Nat.lt_or_ge j k with g | g
    ·exact hk2 j hj g
    ·have:j=k:=by omega
     subst this;simpa using h0
  ·have hall:s.any (fun b=>decide (b=0))=false:=List.any_eq_false.2 fun x hx=>by
    obtain ⟨j,hj,rfl⟩:=List.getElem_of_mem hx
    have:=hk2 j hj (by omega)
    simp[this]
   by_cases h1:s = []
   ·have hn:¬(1:Int)<=(s.length:Int):=by rw[h1];simp
    push_cast -dsimp [h,hn]
    exact ⟨[],rfl,rfl,by push_cast -dsimp [zb,za,CLe,zd]<;>simp[Y5,h1]⟩
   ·have hpos:1<=s.length:=List.length_pos_iff.2 h1
    have hpos':(1:Int)<=(s.length:Int):=by omega
    push_cast -dsimp [h,hpos,hpos']
    refine ⟨[],rfl,rfl,?_⟩
    push_cast -dsimp [zb,za,CLe,zd]
    have:decide ((s.length:Int)<=4095)=decide (s.length<=4095):=by rw[decide_eq_decide];omega
    simp[Y5,h1,hall,this]
theorem xy (k:Int):Fun Tryz.prog G0 48 [.sc (.int .i64 k)] (qD (Zs k)) 0:=by
 refine Fun.of (fun _=>[]) Tryz.func48 rfl (zi rfl) (by kernel_rfl) ?_;dsimp only[Tryz.f48]
 push_cast -dsimp
 repeat' (first
  | (refine br (fun h=>?_) (fun h=>?_)<;>push_cast -dsimp [h])
  | (refine ⟨[],rfl,rfl,?_⟩;push_cast -dsimp [zb,za,CLe,zd];simp_all [Zs]))
theorem Up {a b:List UInt8} (ha:zO a=true) (hb:zO b=true):Xf a b=Yo a b:=by
 simp only[zO,Bool.and_eq_true]at ha hb
 exact xn a b ha.1 hb.1
theorem Yt (k s:Int) (a b d:List UInt8) (hs:short ⟨k,s,a,b,d⟩):Fun Tryz.prog G0 47 [.agg (opL ⟨k,s,a,b,d⟩)] (qD (Vn ⟨k,s,a,b,d⟩)) 0:=by
 have hs1:a.length<=100000:=hs.1
 have hs2:b.length<=100000:=hs.2.1
 have hs3:d.length<=100000:=hs.2.2
 have h1:=(kX a (by omega))
 have h2:=(kX b (by omega))
 have h3:=(yP d (by omega))
 have h4:=(Vj a b (by omega) (by omega))
 have h5:=(Vj b a (by omega) (by omega))
 have h6:=xy k
 unfold opL
 by_cases hk1:k<1
 ·have:¬1<=k:=by omega
  refine Fun.of (fun _=>[]) Tryz.func47 rfl (zi rfl) (by kernel_rfl) ?_;dsimp only[Tryz.f47]
  push_cast -dsimp [hk1]
  exact ⟨[],rfl,rfl,by push_cast -dsimp [zb,za,CLe,zd];simp[Vn,this]⟩
 by_cases hk2:10<k
 ·have:¬k<=10:=by omega
  refine Fun.of (fun _=>[]) Tryz.func47 rfl (zi rfl) (by kernel_rfl) ?_;dsimp only[Tryz.f47]
  push_cast -dsimp [hk1,hk2]
  exact ⟨[],rfl,rfl,by push_cast -dsimp [zb,za,CLe,zd];simp[Vn,this]⟩
 cases hp:zO a with
 | false =>
  rw[hp]at h1
  refine Fun.of (fun _=>[]) Tryz.func47 rfl (zi rfl) (by kernel_rfl) ?_;dsimp only[Tryz.f47]
  push_cast -dsimp [hk1,hk2]
  refine cl (h1) ?_;push_cast -dsimp
  exact ⟨[],rfl,rfl,by push_cast -dsimp [zb,za,CLe,zd];simp[Vn,hp]⟩
 | true =>
  rw[hp]at h1
  have hu:zO b=true->Xf a b=Yo a b:=fun hb=>Up hp hb
  have hu2:zO b=true->Xf b a=Yo b a:=fun hb=>Up hb hp
  have hk:k=1∨k=2∨k=3∨k=4∨k=5∨k=6∨k=7∨k=8∨k=9∨k=10:=by omega
  clear hk1 hk2 hs hs1 hs2 hs3
  rcases hk with rfl | rfl | rfl | rfl | rfl | rfl | rfl | rfl | rfl | rfl
  all_goals
   simp[Zs]at h6
   refine Fun.of (fun _=>[]) Tryz.func47 rfl (zi rfl) (by kernel_rfl) ?_;dsimp only[Tryz.f47]
   push_cast -dsimp
   refine cl (h1) ?_;push_cast -dsimp
   refine cl (h6) ?_;push_cast -dsimp
   repeat' (first
    | (refine call h2 ?_;push_cast -dsimp)
    | (refine kh h2 ?_;push_cast -dsimp)
    | (refine call h3 ?_;push_cast -dsimp)
    | (refine kh h3 ?_;push_cast -dsimp)
    | (refine call h4 ?_;push_cast -dsimp)
    | (refine kh h4 ?_;push_cast -dsimp)
    | (refine call h5 ?_;push_cast -dsimp)
    | (refine kh h5 ?_;push_cast -dsimp)
    | (refine br (fun h=>?_) (fun h=>?_)<;>push_cast -dsimp [h])
    | (refine ⟨[],rfl,rfl,?_⟩;push_cast -dsimp [zb,za,CLe,zd];clear h1 h2 h3 h4 h5 h6;simp_all [Vn,Zs,zeI]<;>omega))
end
section
open CA CB
open Go.RowKit
theorem zhW (w:qv) (hw:Xc w) (hs:Vx w) (s:Int) (a b d:List UInt8) (ho:short ⟨1,s,a,b,d⟩) (hd:d.length<=10000) (hm:Vn ⟨1,s,a,b,d⟩=true) (p1:zO a=true) (p2:zeI 1=true->zO b=true):Fun Tryz.prog G0 53 [jv w,.agg (opL ⟨1,s,a,b,d⟩)] (.tup [jv (doV w ⟨1,s,a,b,d⟩).1,.sc (.int .i64 (doV w ⟨1,s,a,b,d⟩).2)]) 0:=by
 have e0:doV w ⟨1,s,a,b,d⟩=Je w a 2 []:=by unfold doV;rw[hm];rfl
 have hop:=Yt 1 s a b d ho
 rw[hm]at hop
 rw[e0]
 unfold qD opL at hop
 unfold opL
 have h1:=UG w hw hs a ho.1 p1 2 [] (by simp)
 refine Fun.of (fun _=>[]) Tryz.func53 rfl (zi rfl) (by kernel_rfl) ?_;dsimp only[Tryz.f53]
 push_cast -dsimp
 refine cl (hop) ?_;push_cast -dsimp
 refine cl (h1) ?_;push_cast -dsimp
 exact ⟨[],rfl,rfl,by push_cast -dsimp [zb,za,CLe,zd]⟩
theorem zg4 (w:qv) (hw:Xc w) (hs:Vx w) (s:Int) (a b d:List UInt8) (ho:short ⟨2,s,a,b,d⟩) (hd:d.length<=10000) (hm:Vn ⟨2,s,a,b,d⟩=true) (p1:zO a=true) (p2:zeI 2=true->zO b=true):Fun Tryz.prog G0 53 [jv w,.agg (opL ⟨2,s,a,b,d⟩)] (.tup [jv (doV w ⟨2,s,a,b,d⟩).1,.sc (.int .i64 (doV w ⟨2,s,a,b,d⟩).2)]) 0:=by
 have e0:doV w ⟨2,s,a,b,d⟩=j4 w ⟨2,s,a,b,d⟩:=by unfold doV;rw[hm];rfl
 have hop:=Yt 2 s a b d ho
 rw[hm]at hop
 rw[e0]
 unfold qD opL at hop
 unfold opL
 have h1:=UT w.fs hw.fs hs.fs a ho.1
 by_cases h0:(zM w.fs a).2=0
 ·have h0':=eq_true h0
  have h2:=UG w hw hs b ho.2.1 (p2 rfl) 1 (zM w.fs a).1.data (Q5 hw hs p1 h0)
  have e:j4 w ⟨2,s,a,b,d⟩=Je w b 1 (zM w.fs a).1.data:=by unfold j4;simp[h0]
  refine Fun.of (fun _=>[]) Tryz.func53 rfl (zi rfl) (by kernel_rfl) ?_;dsimp only[Tryz.f53]
  push_cast -dsimp
  refine cl (hop) ?_;push_cast -dsimp
  refine cl (h1) ?_;push_cast -dsimp [h0']
  refine cl (h2) ?_;push_cast -dsimp
  exact ⟨[],rfl,rfl,by push_cast -dsimp [zb,za,CLe,zd,e]⟩
 ·have h0':=eq_false h0
  have e:j4 w ⟨2,s,a,b,d⟩=(w,(zM w.fs a).2):=by unfold j4;simp[h0]
  refine Fun.of (fun _=>[]) Tryz.func53 rfl (zi rfl) (by kernel_rfl) ?_;dsimp only[Tryz.f53]
  push_cast -dsimp
  refine cl (hop) ?_;push_cast -dsimp
  refine cl (h1) ?_;push_cast -dsimp [h0']
  exact ⟨[],rfl,rfl,by push_cast -dsimp [zb,za,CLe,zd,e]⟩
theorem zfS (w:qv) (hw:Xc w) (hs:Vx w) (s:Int) (a b d:List UInt8) (ho:short ⟨3,s,a,b,d⟩) (hd:d.length<=10000) (hm:Vn ⟨3,s,a,b,d⟩=true) (p1:zO a=true) (p2:zeI 3=true->zO b=true):Fun Tryz.prog G0 53 [jv w,.agg (opL ⟨3,s,a,b,d⟩)] (.tup [jv (doV w ⟨3,s,a,b,d⟩).1,.sc (.int .i64 (doV w ⟨3,s,a,b,d⟩).2)]) 0:=by
 have e0:doV w ⟨3,s,a,b,d⟩=zT w ⟨3,s,a,b,d⟩:=by unfold doV;rw[hm];rfl
 have hop:=Yt 3 s a b d ho
 rw[hm]at hop
 rw[e0]
 unfold qD opL at hop
 unfold opL
 have h1:=MB w hw hs ⟨3,s,a,b,d⟩ ho p1 (p2 rfl)
 unfold opL at h1
 refine Fun.of (fun _=>[]) Tryz.func53 rfl (zi rfl) (by kernel_rfl) ?_;dsimp only[Tryz.f53]
 push_cast -dsimp
 refine cl (hop) ?_;push_cast -dsimp
 refine cl (h1) ?_;push_cast -dsimp
 exact ⟨[],rfl,rfl,by push_cast -dsimp [zb,za,CLe,zd]⟩
theorem zhv (w:qv) (hw:Xc w) (hs:Vx w) (s:Int) (a b d:List UInt8) (ho:short ⟨4,s,a,b,d⟩) (hd:d.length<=10000) (hm:Vn ⟨4,s,a,b,d⟩=true) (p1:zO a=true) (p2:zeI 4=true->zO b=true):Fun Tryz.prog G0 53 [jv w,.agg (opL ⟨4,s,a,b,d⟩)] (.tup [jv (doV w ⟨4,s,a,b,d⟩).1,.sc (.int .i64 (doV w ⟨4,s,a,b,d⟩).2)]) 0:=by
 have e0:doV w ⟨4,s,a,b,d⟩=Je w a 3 d:=by unfold doV;rw[hm];rfl
 have hop:=Yt 4 s a b d ho
 rw[hm]at hop
 rw[e0]
 unfold qD opL at hop
 unfold opL
 have h1:=UG w hw hs a ho.1 p1 3 d hd
 refine Fun.of (fun _=>[]) Tryz.func53 rfl (zi rfl) (by kernel_rfl) ?_;dsimp only[Tryz.f53]
 push_cast -dsimp
 refine cl (hop) ?_;push_cast -dsimp
 refine cl (h1) ?_;push_cast -dsimp
 exact ⟨[],rfl,rfl,by push_cast -dsimp [zb,za,CLe,zd]⟩
theorem zgt (w:qv) (hw:Xc w) (hs:Vx w) (s:Int) (a b d:List UInt8) (ho:short ⟨5,s,a,b,d⟩) (hd:d.length<=10000) (hm:Vn ⟨5,s,a,b,d⟩=true) (p1:zO a=true) (p2:zeI 5=true->zO b=true):Fun Tryz.prog G0 53 [jv w,.agg (opL ⟨5,s,a,b,d⟩)] (.tup [jv (doV w ⟨5,s,a,b,d⟩).1,.sc (.int .i64 (doV w ⟨5,s,a,b,d⟩).2)]) 0:=by
 have e0:doV w ⟨5,s,a,b,d⟩=qJ w ⟨5,s,a,b,d⟩:=by unfold doV;rw[hm];rfl
 have hop:=Yt 5 s a b d ho
 rw[hm]at hop
 rw[e0]
 unfold qD opL at hop
 unfold opL
 have h1:=Qf w.fs hw.fs hs.fs a ho.1 true
 have h2:=Qf w.fs hw.fs hs.fs b ho.2.1 false
 rw[if_pos rfl]at h1
 rw[if_neg (by decide)]at h2
 by_cases h0:(isV w.fs a true).2.2=0
 ·have h0':=eq_true h0
  obtain ⟨t1,t2⟩:=jK hw.fs p1 h0
  have hi:=qg.ino hw.fs t1
  have hino:(isV w.fs a true).2.1.ino=(isV w.fs a true).1.ino:=by rw[t2,(zk hi).2.2]
  by_cases hk:(isV w.fs a true).2.1.kind=2
  ·have hk':=eq_true hk
   have e:qJ w ⟨5,s,a,b,d⟩=(w,11):=by unfold qJ;simp[h0,hk]
   refine Fun.of (fun _=>[]) Tryz.func53 rfl (zi rfl) (by kernel_rfl) ?_;dsimp only[Tryz.f53]
   push_cast -dsimp
   refine cl (hop) ?_;push_cast -dsimp
   refine cl (h1) ?_;push_cast -dsimp [h0',hk']
   exact ⟨[],rfl,rfl,by push_cast -dsimp [zb,za,CLe,zd,e]⟩
  ·have hk':=eq_false hk
   by_cases hb:(isV w.fs b false).2.2=0
   ·have hb':=eq_true hb
    have hfree:=JF hw.fs (p2 rfl) hb
    have hne:(isV w.fs b false).1.dir≠(isV w.fs a true).2.1.ino:=fun e=>by
     rw[hino]at e
     have:=hfree.kind
     rw[e,←t2]at this
     exact hk this
    have hn:=zbV w.fs hw.fs hs.fs (isV w.fs b false).1 hfree (isV w.fs a true).2.1.ino (by rw[hino];exact hi) hne
    have e:qJ w ⟨5,s,a,b,d⟩=({ w with fs:=Uw w.fs (isV w.fs b false).1 (isV w.fs a true).2.1.ino },0):=by unfold qJ;simp[h0,hk,hb]
    refine Fun.of (fun _=>[]) Tryz.func53 rfl (zi rfl) (by kernel_rfl) ?_;dsimp only[Tryz.f53]
    push_cast -dsimp
    refine cl (hop) ?_;push_cast -dsimp
    refine cl (h1) ?_;push_cast -dsimp [h0',hk']
    refine cl (h2) ?_;push_cast -dsimp [hb']
    refine cl (hn) ?_;push_cast -dsimp
    exact ⟨[],rfl,rfl,by push_cast -dsimp [zb,za,CLe,zd,e]⟩
   ·have hb':=eq_false hb
    have e:qJ w ⟨5,s,a,b,d⟩=(w,(isV w.fs b false).2.2):=by unfold qJ;simp[h0,hk,hb]
    refine Fun.of (fun _=>[]) Tryz.func53 rfl (zi rfl) (by kernel_rfl) ?_;dsimp only[Tryz.f53]
    push_cast -dsimp
    refine cl (hop) ?_;push_cast -dsimp
    refine cl (h1) ?_;push_cast -dsimp [h0',hk']
    refine cl (h2) ?_;push_cast -dsimp [hb']
    exact ⟨[],rfl,rfl,by push_cast -dsimp [zb,za,CLe,zd,e]⟩
 ·have h0':=eq_false h0
  have e:qJ w ⟨5,s,a,b,d⟩=(w,(isV w.fs a true).2.2):=by unfold qJ;simp[h0]
  refine Fun.of (fun _=>[]) Tryz.func53 rfl (zi rfl) (by kernel_rfl) ?_;dsimp only[Tryz.f53]
  push_cast -dsimp
  refine cl (hop) ?_;push_cast -dsimp
  refine cl (h1) ?_;push_cast -dsimp [h0']
  exact ⟨[],rfl,rfl,by push_cast -dsimp [zb,za,CLe,zd,e]⟩
theorem zhj (w:qv) (hw:Xc w) (hs:Vx w) (s:Int) (a b d:List UInt8) (ho:short ⟨6,s,a,b,d⟩) (hd:d.length<=10000) (hm:Vn ⟨6,s,a,b,d⟩=true) (p1:zO a=true) (p2:zeI 6=true->zO b=true):Fun Tryz.prog G0 53 [jv w,.agg (opL ⟨6,s,a,b,d⟩)] (.tup [jv (doV w ⟨6,s,a,b,d⟩).1,.sc (.int .i64 (doV w ⟨6,s,a,b,d⟩).2)]) 0:=by
 have e0:doV w ⟨6,s,a,b,d⟩=Jf w ⟨6,s,a,b,d⟩:=by unfold doV;rw[hm];rfl
 have hop:=Yt 6 s a b d ho
 rw[hm]at hop
 rw[e0]
 unfold qD opL at hop
 unfold opL
 have h1:=Qf w.fs hw.fs hs.fs a ho.1 true
 have h2:=Qf w.fs hw.fs hs.fs b ho.2.1 false
 rw[if_pos rfl]at h1
 rw[if_neg (by decide)]at h2
 by_cases h0:(isV w.fs a true).2.2=0
 ·have h0':=eq_true h0
  obtain ⟨t1,t2⟩:=jK hw.fs p1 h0
  by_cases hb:(isV w.fs b false).2.2=0
  ·have hb':=eq_true hb
   have hfree:=JF hw.fs (p2 rfl) hb
   have hn:=zfv w.fs hw.fs hs.fs (isV w.fs a true).1 (isV w.fs b false).1 t1 hfree (G7 hw.fs hb)
   have e:Jf w ⟨6,s,a,b,d⟩=({ w with fs:=QD w.fs (isV w.fs a true).1 (isV w.fs b false).1 },0):=by unfold Jf;simp[h0,hb]
   refine Fun.of (fun _=>[]) Tryz.func53 rfl (zi rfl) (by kernel_rfl) ?_;dsimp only[Tryz.f53]
   push_cast -dsimp
   refine cl (hop) ?_;push_cast -dsimp
   refine cl (h1) ?_;push_cast -dsimp [h0']
   refine cl (h2) ?_;push_cast -dsimp [hb']
   refine cl (hn) ?_;push_cast -dsimp
   exact ⟨[],rfl,rfl,by push_cast -dsimp [zb,za,CLe,zd,e]⟩
  ·have hb':=eq_false hb
   have e:Jf w ⟨6,s,a,b,d⟩=(w,(isV w.fs b false).2.2):=by unfold Jf;simp[h0,hb]
   refine Fun.of (fun _=>[]) Tryz.func53 rfl (zi rfl) (by kernel_rfl) ?_;dsimp only[Tryz.f53]
   push_cast -dsimp
   refine cl (hop) ?_;push_cast -dsimp
   refine cl (h1) ?_;push_cast -dsimp [h0']
   refine cl (h2) ?_;push_cast -dsimp [hb']
   exact ⟨[],rfl,rfl,by push_cast -dsimp [zb,za,CLe,zd,e]⟩
 ·have h0':=eq_false h0
  have e:Jf w ⟨6,s,a,b,d⟩=(w,(isV w.fs a true).2.2):=by unfold Jf;simp[h0]
  refine Fun.of (fun _=>[]) Tryz.func53 rfl (zi rfl) (by kernel_rfl) ?_;dsimp only[Tryz.f53]
  push_cast -dsimp
  refine cl (hop) ?_;push_cast -dsimp
  refine cl (h1) ?_;push_cast -dsimp [h0']
  exact ⟨[],rfl,rfl,by push_cast -dsimp [zb,za,CLe,zd,e]⟩
theorem zgj (w:qv) (hw:Xc w) (hs:Vx w) (s:Int) (a b d:List UInt8) (ho:short ⟨7,s,a,b,d⟩) (hd:d.length<=10000) (hm:Vn ⟨7,s,a,b,d⟩=true) (p1:zO a=true) (p2:zeI 7=true->zO b=true):Fun Tryz.prog G0 53 [jv w,.agg (opL ⟨7,s,a,b,d⟩)] (.tup [jv (doV w ⟨7,s,a,b,d⟩).1,.sc (.int .i64 (doV w ⟨7,s,a,b,d⟩).2)]) 0:=by
 have e0:doV w ⟨7,s,a,b,d⟩=qt w ⟨7,s,a,b,d⟩:=by unfold doV;rw[hm];rfl
 have hop:=Yt 7 s a b d ho
 rw[hm]at hop
 rw[e0]
 unfold qD opL at hop
 unfold opL
 have h1:=Qf w.fs hw.fs hs.fs a ho.1 true
 rw[if_pos rfl]at h1
 by_cases h0:(isV w.fs a true).2.2=0
 ·have h0':=eq_true h0
  obtain ⟨t1,t2⟩:=jK hw.fs p1 h0
  by_cases hes:(isV w.fs a true).2.1.es = []
  ·have hel:(0<(zG (isV w.fs a true).2.1.es).length)=False:=eq_false (by rw[hes];simp)
   have hd:=zdf w hw hs.fs (by have:=hs.kept;omega) (by have:=hs.pool;omega) s (isV w.fs a true).1 t1
   have e:qt w ⟨7,s,a,b,d⟩=JM w s (isV w.fs a true).1:=by unfold qt;simp[h0,hes]
   refine Fun.of (fun _=>[]) Tryz.func53 rfl (zi rfl) (by kernel_rfl) ?_;dsimp only[Tryz.f53]
   push_cast -dsimp
   refine cl (hop) ?_;push_cast -dsimp
   refine cl (h1) ?_;push_cast -dsimp [h0',hel]
   refine cl (hd) ?_;push_cast -dsimp
   exact ⟨[],rfl,rfl,by push_cast -dsimp [zb,za,CLe,zd,e]⟩
  ·have hel:(0<(zG (isV w.fs a true).2.1.es).length)=True:=eq_true (by rw[List.length_map];exact List.length_pos_iff.2 hes)
   have e:qt w ⟨7,s,a,b,d⟩=(w,5):=by unfold qt;simp[h0,hes]
   refine Fun.of (fun _=>[]) Tryz.func53 rfl (zi rfl) (by kernel_rfl) ?_;dsimp only[Tryz.f53]
   push_cast -dsimp
   refine cl (hop) ?_;push_cast -dsimp
   refine cl (h1) ?_;push_cast -dsimp [h0',hel]
   exact ⟨[],rfl,rfl,by push_cast -dsimp [zb,za,CLe,zd,e]⟩
 ·have h0':=eq_false h0
  have e:qt w ⟨7,s,a,b,d⟩=(w,(isV w.fs a true).2.2):=by unfold qt;simp[h0]
  refine Fun.of (fun _=>[]) Tryz.func53 rfl (zi rfl) (by kernel_rfl) ?_;dsimp only[Tryz.f53]
  push_cast -dsimp
  refine cl (hop) ?_;push_cast -dsimp
  refine cl (h1) ?_;push_cast -dsimp [h0']
  exact ⟨[],rfl,rfl,by push_cast -dsimp [zb,za,CLe,zd,e]⟩
theorem zcl (w:qv) (hw:Xc w) (hs:Vx w) (o:OpV) (ho:short o) (hd:o.d.length<=10000) (hk:o.kind<=7):Fun Tryz.prog G0 53 [jv w,.agg (opL o)] (.tup [jv (doV w o).1,.sc (.int .i64 (doV w o).2)]) 0:=by
 obtain ⟨k,s,a,b,d⟩:=o
 cases hm:Vn ⟨k,s,a,b,d⟩ with
 | false =>
  have e:doV w ⟨k,s,a,b,d⟩=(w,12):=by unfold doV;rw[hm];rfl
  have hop:=Yt k s a b d ho
  rw[hm]at hop
  rw[e]
  unfold opL qD at hop
  unfold opL
  refine Fun.of (fun _=>[]) Tryz.func53 rfl (zi rfl) (by kernel_rfl) ?_;dsimp only[Tryz.f53]
  push_cast -dsimp
  refine cl (hop) ?_;push_cast -dsimp
  exact ⟨[],rfl,rfl,by push_cast -dsimp [zb,za,CLe,zd]⟩
 | true =>
 have hk1:1<=k:=by
  unfold Vn at hm
  simp only[Bool.and_eq_true,decide_eq_true_eq]at hm
  exact hm.1.1.1.1.1.1
 obtain ⟨p1,p2,_⟩:=X0 hm
 have hk7:k<=7:=hk
 obtain rfl | rfl | rfl | rfl | rfl | rfl | rfl:k=1∨k=2∨k=3∨k=4∨k=5∨k=6∨k=7:=by omega
 ·exact zhW w hw hs s a b d ho hd hm p1 p2
 ·exact zg4 w hw hs s a b d ho hd hm p1 p2
 ·exact zfS w hw hs s a b d ho hd hm p1 p2
 ·exact zhv w hw hs s a b d ho hd hm p1 p2
 ·exact zgt w hw hs s a b d ho hd hm p1 p2
 ·exact zhj w hw hs s a b d ho hd hm p1 p2
 ·exact zgj w hw hs s a b d ho hd hm p1 p2
end
section
open CA CB
open Go.RowKit
def Ju (f:FsV):Prop:=1<=f.maxI/\f.maxI<=1073741824/\0<=f.maxB/\f.maxB<=1073741824/\f.next<=1099511627776/\(∀ x∈f.xs,1<=x.ino/\x.ino<f.next)/\qc f.xs/\zF 1 f.xs=true/\(zg 1 f.xs).kind=2
instance (f:FsV):Decidable (Ju f):=by unfold Ju;infer_instance
def YH (f:FsV):Prop:=∀ x∈f.xs,∀ e∈x.es,zF e.ino f.xs=true
instance (f:FsV):Decidable (YH f):=by unfold YH;infer_instance
def Hn (f:FsV):Prop:=(f.xs.length:Int)<=f.maxI/\(ja f.xs:Int)<=f.maxB
instance (f:FsV):Decidable (Hn f):=by unfold Hn;infer_instance
theorem qj {α:Type} {l:List α} {i:Nat} (h:i<l.length) {P:α->Prop} (h1:∀ x∈l.take i,P x) (h2:P l[i]):∀ x∈l.take (i+1),P x:=fun x hx=>by
 rw[List.take_add_one,List.getElem?_eq_getElem h]at hx
 rcases List.mem_append.1 hx with hx | hx
 ·exact h1 x hx
 ·simp at hx;subst hx;exact h2
section
variable {G:zm}
theorem NU (f:FsV) (hl:f.xs.length<=100000):Fun Tryz.prog G 67 [.agg (fsC f)] (.sc (.bool (decide (Ju f)))) 0:=by
 have hll:(zp f.xs).length=f.xs.length:=List.length_map ..
 refine Fun.of (fun _=>[]) Tryz.func67 rfl (zi rfl) (by kernel_rfl) ?_;dsimp only[Tryz.f67]
 by_cases e0:f.maxI<1
 case pos =>
  have hn:¬Ju f:=fun h=>by have:=h.1;omega
  push_cast -dsimp [e0]
  exact ⟨[],rfl,rfl,by push_cast -dsimp [zb,za,CLe,zd,hn]⟩
 by_cases e1:1073741824<f.maxI
 case pos =>
  have hn:¬Ju f:=fun h=>by have:=h.2.1;omega
  push_cast -dsimp [e0,e1]
  exact ⟨[],rfl,rfl,by push_cast -dsimp [zb,za,CLe,zd,hn]⟩
 by_cases e2:f.maxB<0
 case pos =>
  have hn:¬Ju f:=fun h=>by have:=h.2.2.1;omega
  push_cast -dsimp [e0,e1,e2]
  exact ⟨[],rfl,rfl,by push_cast -dsimp [zb,za,CLe,zd,hn]⟩
 by_cases e3:1073741824<f.maxB
 case pos =>
  have hn:¬Ju f:=fun h=>by have:=h.2.2.2.1;omega
  push_cast -dsimp [e0,e1,e2,e3]
  exact ⟨[],rfl,rfl,by push_cast -dsimp [zb,za,CLe,zd,hn]⟩
 by_cases e4:1099511627776<f.next
 case pos =>
  have hn:¬Ju f:=fun h=>by have:=h.2.2.2.2.1;omega
  push_cast -dsimp [e0,e1,e2,e3,e4]
  exact ⟨[],rfl,rfl,by push_cast -dsimp [zb,za,CLe,zd,hn]⟩
 push_cast -dsimp [e0,e1,e2,e3,e4]
 refine loop (fun i:Nat=>⟨[(1,.ptr 0 0),(3,.sc (.int .i64 i))],[fsC f],0,0⟩) (fun i=>i<=f.xs.length/\∀ x∈f.xs.take i,1<=x.ino/\x.ino<f.next) (fun i=>f.xs.length-i) 0 ⟨Nat.zero_le _,fun x hx=>by simp at hx⟩ ?_ ?_
 ·exact zH.mk [] rfl rfl (Nat.zero_le _) rfl (by push_cast -dsimp [zb,za,CLe,zd]) (by push_cast -dsimp [zb,za,CLe,zd])
 ·rintro i ⟨h1,h2⟩
  by_cases h:i<f.xs.length
  ·have g1:=qS f.xs i h
   by_cases c1:f.xs[i].ino<1
   ·have hn:¬Ju f:=fun h'=>by have:=h'.2.2.2.2.2.1 _ (List.getElem_mem h);omega
    push_cast -dsimp [hll,h,g1,c1]
    (try simp only[lS]);repeat refine And.intro (by omega) ?_
    exact ⟨[],rfl,rfl,by push_cast -dsimp [zb,za,CLe,zd,hn]⟩
   ·by_cases c2:f.next<=f.xs[i].ino
    ·have hn:¬Ju f:=fun h'=>by have:=h'.2.2.2.2.2.1 _ (List.getElem_mem h);omega
     push_cast -dsimp [hll,h,g1,c1,c2]
     (try simp only[lS]);repeat refine And.intro (by omega) ?_
     exact ⟨[],rfl,rfl,by push_cast -dsimp [zb,za,CLe,zd,hn]⟩
    ·push_cast -dsimp [hll,h,g1,c1,c2]
     (try simp only[lS]);repeat refine And.intro (by omega) ?_
     exact ⟨i+1,⟨h,qj h h2 (by omega)⟩,by omega,zH.mk [] rfl rfl (Nat.zero_le _) rfl (by push_cast -dsimp [zb,za,CLe,zd]) (by push_cast -dsimp [zb,za,CLe,zd])⟩
  ·rw[List.take_of_length_le (by omega)]at h2
   have hf:Ju f↔qc f.xs/\zF 1 f.xs=true/\(zg 1 f.xs).kind=2:=⟨fun h=>h.2.2.2.2.2.2,fun h=>⟨by omega,by omega,by omega,by omega,by omega,h2,h⟩⟩
   push_cast -dsimp [hll,h]
   refine cl (qC f 1 hl) ?_;push_cast -dsimp
   by_cases c1:qc f.xs
   ·cases c2:zF 1 f.xs with
    | true =>
     refine cl (VD f hl) ?_;push_cast -dsimp [decide_eq_true c1,c2]
     exact ⟨[],rfl,rfl,by push_cast -dsimp [zb,za,CLe,zd,hf,c1,c2]⟩
    | false =>
     have hn:¬Ju f:=fun h=>by have:=(hf.1 h).2.1;rw[c2]at this;cases this
     refine cl (VD f hl) ?_;push_cast -dsimp [decide_eq_true c1,c2]
     exact ⟨[],rfl,rfl,by push_cast -dsimp [zb,za,CLe,zd,hn]⟩
   ·have hn:¬Ju f:=fun h=>c1 (hf.1 h).1
    refine cl (VD f hl) ?_;push_cast -dsimp [decide_eq_false c1]
    exact ⟨[],rfl,rfl,by push_cast -dsimp [zb,za,CLe,zd,hn]⟩
theorem Ny (f:FsV) (hf:FsS f):Fun Tryz.prog G 69 [.agg (fsC f)] (.sc (.bool (decide (YH f)))) 0:=by
 have hll:(zp f.xs).length=f.xs.length:=List.length_map ..
 have h40:=hf.len
 refine Fun.of (fun i=>if i=7 then kl 15 16 else []) Tryz.func69 rfl (zi rfl) (by kernel_rfl) ?_;dsimp only[Tryz.f69]
 push_cast -dsimp
 refine loop (fun i:Nat=>⟨[(1,.ptr 0 0),(3,.sc (.int .i64 i))],[fsC f],0,0⟩) (fun i=>i<=f.xs.length/\∀ x∈f.xs.take i,∀ e∈x.es,zF e.ino f.xs=true) (fun i=>f.xs.length-i) 0 ⟨Nat.zero_le _,fun x hx=>by simp at hx⟩ ?_ ?_
 ·exact zH.mk [] rfl rfl (Nat.zero_le _) rfl (by push_cast -dsimp [zb,za,CLe,zd]) (by push_cast -dsimp [zb,za,CLe,zd])
 ·rintro i ⟨h1,h2⟩
  by_cases h:i<f.xs.length
  ·have g1:=qS f.xs i h
   have he:=(hf.node _ (List.getElem_mem h)).1
   have hle:(zG f.xs[i].es).length=f.xs[i].es.length:=List.length_map ..
   push_cast -dsimp [hll,h]
   refine loop (fun k:Nat=>⟨[(1,.ptr 0 0),(3,.sc (.int .i64 i)),(4,.sc (.int .i64 k))],[fsC f],0,0⟩) (fun k=>k<=f.xs[i].es.length/\∀ e∈f.xs[i].es.take k,zF e.ino f.xs=true) (fun k=>f.xs[i].es.length-k) 0 ⟨Nat.zero_le _,fun x hx=>by simp at hx⟩ ?_ ?_
   ·exact zH.mk [] rfl rfl (Nat.zero_le _) rfl (by push_cast -dsimp [zb,za,CLe,zd]) (by push_cast -dsimp [zb,za,CLe,zd])
   ·rintro k ⟨h3,h4⟩
    by_cases hk:k<f.xs[i].es.length
    ·have g2:=j0 f.xs[i].es k hk
     push_cast -dsimp [g1,hle,hk,g2]
     (try simp only[lS]);repeat refine And.intro (by omega) ?_
     refine cl (qC f f.xs[i].es[k].ino (by omega)) ?_;push_cast -dsimp
     cases hh:zF f.xs[i].es[k].ino f.xs with
     | true =>
      push_cast -dsimp [hh]
      (try simp only[lS]);repeat refine And.intro (by omega) ?_
      exact ⟨k+1,⟨hk,qj hk h4 hh⟩,by omega,zH.mk [] rfl rfl (Nat.zero_le _) rfl (by push_cast -dsimp [zb,za,CLe,zd]) (by push_cast -dsimp [zb,za,CLe,zd])⟩
     | false =>
      have hn:¬YH f:=fun h'=>by have:=h' _ (List.getElem_mem h) _ (List.getElem_mem hk);rw[hh]at this;cases this
      push_cast -dsimp [hh]
      exact ⟨[],rfl,rfl,by push_cast -dsimp [zb,za,CLe,zd,hn]⟩
    ·rw[List.take_of_length_le (by omega)]at h4
     push_cast -dsimp [g1,hle,hk]
     (try simp only[lS]);repeat refine And.intro (by omega) ?_
     exact ⟨i+1,⟨h,qj h h2 h4⟩,by omega,zH.mk [] rfl rfl (Nat.zero_le _) rfl (by push_cast -dsimp [zb,za,CLe,zd]) (by push_cast -dsimp [zb,za,CLe,zd])⟩
  ·rw[List.take_of_length_le (by omega)]at h2
   have hn:YH f:=h2
   push_cast -dsimp [hll,h]
   exact ⟨[],rfl,rfl,by push_cast -dsimp [zb,za,CLe,zd,hn]⟩
theorem vp (f:FsV) (hf:FsS f) (hb:ja f.xs<=100000000):Fun Tryz.prog G 72 [.agg (fsC f),.sc (.int .i64 0),.sc (.int .i64 0)] (.sc (.bool (decide (Hn f)))) 0:=by
 have hll:(zp f.xs).length=f.xs.length:=List.length_map ..
 have h40:=hf.len
 refine Fun.of (fun _=>[]) Tryz.func72 rfl (zi rfl) (by kernel_rfl) ?_;dsimp only[Tryz.f72]
 by_cases c1:f.maxI<f.xs.length
 ·have hn:¬Hn f:=fun h=>by have:=h.1;omega
  push_cast -dsimp [hll,c1]
  (try simp only[lS]);repeat refine And.intro (by omega) ?_
  exact ⟨[],rfl,rfl,by push_cast -dsimp [zb,za,CLe,zd,hn]⟩
 ·have hn:Hn f↔(ja f.xs:Int)<=f.maxB:=⟨fun h=>h.2,fun h=>⟨by omega,h⟩⟩
  push_cast -dsimp [hll,c1]
  (try simp only[lS]);repeat refine And.intro (by omega) ?_
  refine cl (Mu f hf) ?_;push_cast -dsimp
  (try simp only[lS]);repeat refine And.intro (by omega) ?_
  exact ⟨[],rfl,rfl,by push_cast -dsimp [zb,za,CLe,zd,hn]⟩
end
end
section
open Go.RowKit
abbrev Vq (x:zy) (es:List zZ):List (Int×Int):=es.map fun e=>(e.ino,x.ino)
def qq (xs:List zy):List (Int×Int):=xs.flatMap fun x=>Vq x x.es
def Vs (n:Int) (l:List (Int×Int)):Nat:=(l.filter fun p=>p.1==n).length
def U1 (n:Int) (l:List (Int×Int)):Int:=(((l.filter fun p=>p.1==n).getLast?).map (·.2)).getD 0
theorem zkt {n:Int} {l:List (Int×Int)} {p:Int×Int}:Vs n (l++[p])=Vs n l+if p.1=n then 1 else 0:=by
 unfold Vs
 rw[List.filter_append,List.length_append]
 by_cases h:p.1=n<;>simp[h]
theorem zgH {n:Int} {l:List (Int×Int)} {p:Int×Int}:U1 n (l++[p])=if p.1=n then p.2 else U1 n l:=by
 unfold U1
 rw[List.filter_append]
 by_cases h:p.1=n<;>simp[h]
theorem zbp {xs:List zy} {i:Nat} (h:i<xs.length):qq (xs.take (i+1))=qq (xs.take i)++Vq xs[i] xs[i].es:=by
 unfold qq
 rw[List.take_add_one,List.getElem?_eq_getElem h,List.flatMap_append]
 simp
theorem za4 {x:zy} {es:List zZ} {k:Nat} (h:k<es.length):Vq x (es.take (k+1))=Vq x (es.take k)++[(es[k].ino,x.ino)]:=by
 rw[List.take_add_one,List.getElem?_eq_getElem h,Option.toList_some]
 exact List.map_append
theorem zeK {xs:List zy} (hf:∀ x∈xs,x.es.length<=10000):(qq xs).length<=xs.length*10000:=by
 induction xs with
 | nil=>exact Nat.le_refl _
 | cons x r ih =>
  have h1:=hf x List.mem_cons_self
  have h2:=ih fun y hy=>hf y (List.mem_cons_of_mem _ hy)
  unfold qq at h2 ⊢
  rw[List.flatMap_cons,List.length_append,List.length_map,List.length_cons]
  omega
theorem zmU {n:Int} {l:List (Int×Int)}:Vs n l<=l.length:=List.length_filter_le _ _
def ZJ (xs:List zy) (x:zy):Prop:=x.links=Vs x.ino (qq xs)/\if x.ino=1 then Vs x.ino (qq xs)=0/\x.parent=1 else 1<=Vs x.ino (qq xs)/\(x.kind=2->Vs x.ino (qq xs)=1/\x.parent=U1 x.ino (qq xs))
instance (xs:List zy) (x:zy):Decidable (ZJ xs x):=by unfold ZJ;infer_instance
def YX (f:FsV):Prop:=∀ x∈f.xs,ZJ f.xs x
instance (f:FsV):Decidable (YX f):=by unfold YX;infer_instance
section
variable {G:zm}
theorem za0 (f:FsV) (n:Int) (hf:FsS f):Fun Tryz.prog G 113 [.agg (fsC f),.sc (.int .i64 n)] (.tup [.sc (.int .i64 (Vs n (qq f.xs):Nat)),.sc (.int .i64 (U1 n (qq f.xs)))]) 0:=by
 have hll:(zp f.xs).length=f.xs.length:=List.length_map ..
 have h40:=hf.len
 have hc0:Vs n (qq [])=0:=rfl
 have hl0:U1 n (qq [])=0:=rfl
 refine Fun.of (fun _=>[]) Tryz.func113 rfl (zi rfl) (by kernel_rfl) ?_;dsimp only[Tryz.f113]
 push_cast -dsimp
 refine loop (fun i:Nat=>⟨[(1,.sc (.int .i64 n)),(2,.ptr 0 0),(6,.sc (.int .i64 (Vs n (qq (f.xs.take i)):Nat))),(7,.sc (.int .i64 (U1 n (qq (f.xs.take i))))),(8,.sc (.int .i64 i))],[fsC f],0,0⟩) (fun i=>i<=f.xs.length) (fun i=>f.xs.length-i) 0 (Nat.zero_le _) ?_ ?_
 ·exact zH.mk [] rfl rfl (Nat.zero_le _) rfl (by push_cast -dsimp [zb,za,CLe,zd,List.take_zero,hc0,hl0]) (by push_cast -dsimp [zb,za,CLe,zd])
 ·intro i h1
  by_cases h:i<f.xs.length
  ·have g1:=qS f.xs i h
   have hle:(zG f.xs[i].es).length=f.xs[i].es.length:=List.length_map ..
   have hpl:(qq (f.xs.take i)).length<=i*10000:=by
    have:=zeK (xs:=f.xs.take i) fun x hx=>(hf.node x (List.mem_of_mem_take hx)).1
    rw[List.length_take]at this
    exact Nat.le_trans this (Nat.mul_le_mul_right _ (Nat.min_le_left _ _))
   have h40e:=(hf.node _ (List.getElem_mem h)).1
   push_cast -dsimp [hll,h]
   refine loop (fun k:Nat=>⟨[(1,.sc (.int .i64 n)),(2,.ptr 0 0),(6,.sc (.int .i64 (Vs n (qq (f.xs.take i)++Vq f.xs[i] (f.xs[i].es.take k)):Nat))),(7,.sc (.int .i64 (U1 n (qq (f.xs.take i)++Vq f.xs[i] (f.xs[i].es.take k))))),(8,.sc (.int .i64 i)),(9,.sc (.int .i64 k))],[fsC f],0,0⟩) (fun k=>k<=f.xs[i].es.length) (fun k=>f.xs[i].es.length-k) 0 (Nat.zero_le _) ?_ ?_
   ·exact zH.mk [] rfl rfl (Nat.zero_le _) rfl (by push_cast -dsimp [zb,za,CLe,zd,List.take_zero,List.append_nil]) (by push_cast -dsimp [zb,za,CLe,zd])
   ·intro k hk0
    by_cases hk:k<f.xs[i].es.length
    ·have g2:=j0 f.xs[i].es k hk
     have ht:=za4 (x:=f.xs[i]) hk
     have hcl:=zmU (n:=n) (l:=qq (f.xs.take i)++Vq f.xs[i] (f.xs[i].es.take k))
     rw[List.length_append,List.length_map,List.length_take]at hcl
     have hca:=zkt (n:=n) (l:=qq (f.xs.take i)++Vq f.xs[i] (f.xs[i].es.take k)) (p:=(f.xs[i].es[k].ino,f.xs[i].ino))
     have hla:=zgH (n:=n) (l:=qq (f.xs.take i)++Vq f.xs[i] (f.xs[i].es.take k)) (p:=(f.xs[i].es[k].ino,f.xs[i].ino))
     rw[List.append_assoc,←ht]at hca hla
     by_cases hc:f.xs[i].es[k].ino=n
     ·rw[if_pos hc]at hca hla
      push_cast -dsimp [g1,hle,hk,g2,hc]
      (try simp only[lS]);repeat refine And.intro (by omega) ?_
      exact ⟨k+1,hk,by omega,zH.mk [] rfl rfl (Nat.zero_le _) rfl (by push_cast -dsimp [zb,za,CLe,zd,hca,hla]) (by push_cast -dsimp [zb,za,CLe,zd])⟩
     ·rw[if_neg hc]at hca hla
      push_cast -dsimp [g1,hle,hk,g2,hc]
      (try simp only[lS]);repeat refine And.intro (by omega) ?_
      exact ⟨k+1,hk,by omega,zH.mk [] rfl rfl (Nat.zero_le _) rfl (by push_cast -dsimp [zb,za,CLe,zd,hca,hla]) (by push_cast -dsimp [zb,za,CLe,zd])⟩
    ·have hkk:f.xs[i].es.take k=f.xs[i].es:=List.take_of_length_le (by omega)
     rw[hkk]
     have ht:=zbp h
     push_cast -dsimp [g1,hle,hk]
     (try simp only[lS]);repeat refine And.intro (by omega) ?_
     exact ⟨i+1,h,by omega,zH.mk [] rfl rfl (Nat.zero_le _) rfl (by push_cast -dsimp [zb,za,CLe,zd,ht]) (by push_cast -dsimp [zb,za,CLe,zd])⟩
  ·rw[List.take_of_length_le (by omega)]
   push_cast -dsimp [hll,h]
   exact ⟨[],rfl,rfl,by push_cast -dsimp [zb,za,CLe,zd]⟩
end
end
section
open CA CB
open Go.RowKit
section
variable {G:zm}
theorem k9 (f:FsV) (hf:FsS f):Fun Tryz.prog G 70 [.agg (fsC f)] (.sc (.bool (decide (YX f)))) 0:=by
 have hll:(zp f.xs).length=f.xs.length:=List.length_map ..
 have h40:=hf.len
 refine Fun.of (fun _=>[]) Tryz.func70 rfl (zi rfl) (by kernel_rfl) ?_;dsimp only[Tryz.f70]
 push_cast -dsimp
 refine loop (fun i:Nat=>⟨[(1,.ptr 0 0),(3,.sc (.int .i64 i))],[fsC f],0,0⟩) (fun i=>i<=f.xs.length/\∀ x∈f.xs.take i,ZJ f.xs x) (fun i=>f.xs.length-i) 0 ⟨Nat.zero_le _,fun x hx=>by simp at hx⟩ ?_ ?_
 ·exact zH.mk [] rfl rfl (Nat.zero_le _) rfl (by push_cast -dsimp [zb,za,CLe,zd]) (by push_cast -dsimp [zb,za,CLe,zd])
 ·rintro i ⟨h1,h2⟩
  by_cases h:i<f.xs.length
  ·have g1:=qS f.xs i h
   have hbad:¬ZJ f.xs f.xs[i]->¬YX f:=fun hn h'=>hn (h' _ (List.getElem_mem h))
   have hdef:ZJ f.xs f.xs[i]↔f.xs[i].links=Vs f.xs[i].ino (qq f.xs)/\if f.xs[i].ino=1 then Vs f.xs[i].ino (qq f.xs)=0/\f.xs[i].parent=1 else 1<=Vs f.xs[i].ino (qq f.xs)/\(f.xs[i].kind=2->Vs f.xs[i].ino (qq f.xs)=1/\f.xs[i].parent=U1 f.xs[i].ino (qq f.xs)):=Iff.rfl
   push_cast -dsimp [hll,h,g1]
   (try simp only[lS]);repeat refine And.intro (by omega) ?_
   refine cl (za0 f f.xs[i].ino hf) ?_;push_cast -dsimp
   generalize Vs f.xs[i].ino (qq f.xs)=c at hdef
   generalize U1 f.xs[i].ino (qq f.xs)=d at hdef
   by_cases c1:f.xs[i].links=(c:Int)
   case neg =>
    have hn:=hbad fun h=>c1 (hdef.1 h).1
    push_cast -dsimp [c1]
    exact ⟨[],rfl,rfl,by push_cast -dsimp [zb,za,CLe,zd,hn]⟩
   by_cases c2:f.xs[i].ino=1
   ·rw[if_pos c2]at hdef
    by_cases c3:(c:Int)=0
    ·by_cases c4:f.xs[i].parent=1
     ·push_cast -dsimp [c1,c2,c3,c4]
      (try simp only[lS]);repeat refine And.intro (by omega) ?_
      exact ⟨i+1,⟨h,qj h h2 (hdef.2 ⟨c1,by omega,c4⟩)⟩,by omega,zH.mk [] rfl rfl (Nat.zero_le _) rfl (by push_cast -dsimp [zb,za,CLe,zd]) (by push_cast -dsimp [zb,za,CLe,zd])⟩
     ·have hn:=hbad fun h=>c4 (hdef.1 h).2.2
      push_cast -dsimp [c1,c2,c3,c4]
      exact ⟨[],rfl,rfl,by push_cast -dsimp [zb,za,CLe,zd,hn]⟩
    ·have hn:=hbad fun h=>by have:=(hdef.1 h).2.1;omega
     push_cast -dsimp [c1,c2,c3]
     exact ⟨[],rfl,rfl,by push_cast -dsimp [zb,za,CLe,zd,hn]⟩
   ·rw[if_neg c2]at hdef
    by_cases c3:(c:Int)<1
    ·have hn:=hbad fun h=>by have:=(hdef.1 h).2.1;omega
     push_cast -dsimp [c1,c2,c3]
     exact ⟨[],rfl,rfl,by push_cast -dsimp [zb,za,CLe,zd,hn]⟩
    by_cases c4:f.xs[i].kind=2
    ·by_cases c5:(c:Int)=1
     ·by_cases c6:f.xs[i].parent=d
      ·push_cast -dsimp [c1,c2,c3,c4,c5,c6]
       (try simp only[lS]);repeat refine And.intro (by omega) ?_
       exact ⟨i+1,⟨h,qj h h2 (hdef.2 ⟨c1,by omega,fun _=>⟨by omega,c6⟩⟩)⟩,by omega,zH.mk [] rfl rfl (Nat.zero_le _) rfl (by push_cast -dsimp [zb,za,CLe,zd]) (by push_cast -dsimp [zb,za,CLe,zd])⟩
      ·have hn:=hbad fun h=>c6 ((hdef.1 h).2.2 c4).2
       push_cast -dsimp [c1,c2,c3,c4,c5,c6]
       exact ⟨[],rfl,rfl,by push_cast -dsimp [zb,za,CLe,zd,hn]⟩
     ·have hn:=hbad fun h=>by have:=((hdef.1 h).2.2 c4).1;omega
      push_cast -dsimp [c1,c2,c3,c4,c5]
      exact ⟨[],rfl,rfl,by push_cast -dsimp [zb,za,CLe,zd,hn]⟩
    ·push_cast -dsimp [c1,c2,c3,c4]
     (try simp only[lS]);repeat refine And.intro (by omega) ?_
     exact ⟨i+1,⟨h,qj h h2 (hdef.2 ⟨c1,by omega,fun h=>absurd h c4⟩)⟩,by omega,zH.mk [] rfl rfl (Nat.zero_le _) rfl (by push_cast -dsimp [zb,za,CLe,zd]) (by push_cast -dsimp [zb,za,CLe,zd])⟩
  ·rw[List.take_of_length_le (by omega)]at h2
   have hn:YX f:=h2
   push_cast -dsimp [hll,h]
   exact ⟨[],rfl,rfl,by push_cast -dsimp [zb,za,CLe,zd,hn]⟩
end
end
section
open CA CB
open Go.RowKit
abbrev zbC (S:List Int):List (List C):=S.map fun n=>[C.sc (.int .i64 n)]
def XD (S:List Int) (n:Int):List Int:=if n∈S then S else S++[n]
def NR (S:List Int) (es:List zZ):List Int:=es.foldl (fun s e=>XD s e.ino) S
def UC (xs:List zy):Nat->Nat->List Int->List Int
 | 0,_,S=>S
 | m+1,i,S=>match S[i]? with
  | some n=>UC xs m (i+1) (NR S (zg n xs).es)
  | none=>S
def Q4 (f:FsV):Prop:=(UC f.xs (f.xs.length+1) 0 [1]).length=f.xs.length
instance (f:FsV):Decidable (Q4 f):=by unfold Q4;infer_instance
theorem H9:∀ {S T:List Int},S.Nodup->(∀ n∈S,n∈T)->S.length<=T.length
 | [],T,_,_=>Nat.zero_le _
 | a :: r,T,hn,hs=>by
  have ha:=hs a List.mem_cons_self
  obtain ⟨h1,h2⟩:=List.nodup_cons.1 hn
  have:=H9 (S:=r) (T:=T.erase a) h2 fun n hr=>(List.mem_erase_of_ne (fun e=>h1 (by rw[←e];exact hr))).2 (hs n (List.mem_cons_of_mem _ hr))
  rw[List.length_erase_of_mem ha]at this
  have hpos:=List.length_pos_iff.2 (List.ne_nil_of_mem ha)
  rw[List.length_cons];omega
theorem xe {n:Int} {xs:List zy}:zF n xs=true↔n∈xs.map (·.ino):=by
 unfold zF
 rw[List.any_eq_true,List.mem_map]
 simp
theorem Gv {S:List Int} {xs:List zy} (hn:S.Nodup) (hs:∀ n∈S,zF n xs=true):S.length<=xs.length:=by
 have:=H9 (T:=xs.map (·.ino)) hn fun n h=>xe.1 (hs n h)
 rwa [List.length_map]at this
theorem N1 {S:List Int} {n:Int} (h:S.Nodup):(XD S n).Nodup:=by
 unfold XD
 split
 ·exact h
 ·rw[List.nodup_append]
  refine ⟨h,by simp,fun a ha b hb e=>?_⟩
  simp at hb;subst hb;subst e;contradiction
theorem kK {S:List Int} {n m:Int}:m∈XD S n↔m∈S∨m=n:=by
 unfold XD
 split
 ·constructor
  ·exact .inl
  ·rintro (h | h)
   ·exact h
   ·rw[h];assumption
 ·simp
theorem jf {n:Int} {xs:List zy} (h:zF n xs=true):zg n xs∈xs/\(zg n xs).ino=n:=by
 unfold zF at h
 unfold zg YU
 cases hq:xs.find? fun x=>x.ino==n with
 | none =>
  rw[List.find?_eq_none]at hq
  obtain ⟨x,hx,he⟩:=List.any_eq_true.1 h
  exact absurd he (hq x hx)
 | some y =>
  exact ⟨List.mem_of_find?_eq_some hq,by simpa using List.find?_some hq⟩
theorem zcO {S:List Int} {es:List zZ} {k:Nat} (h:k<es.length):NR S (es.take (k+1))=XD (NR S (es.take k)) es[k].ino:=by
 unfold NR
 rw[List.take_add_one,List.getElem?_eq_getElem h,List.foldl_append]
 rfl
theorem zhq (es:List zZ):∀ (S:List Int),S <+: NR S es:=by
 induction es with
 | nil=>exact fun S=>List.prefix_refl S
 | cons e r ih =>
  intro S
  refine List.IsPrefix.trans ?_ (ih (XD S e.ino))
  unfold XD
  split
  ·exact List.prefix_refl S
  ·exact List.prefix_append S _
theorem zf8 (S:List Int) (es:List zZ):S.length<=(NR S es).length:=(zhq es S).length_le
structure Xl (xs:List zy) (S:List Int):Prop where
 nodup:S.Nodup
 has:∀ n∈S,zF n xs=true
theorem Xl.len {xs:List zy} {S:List Int} (h:Xl xs S):S.length<=xs.length:=Gv h.nodup h.has
theorem Xl.one {xs:List zy} {S:List Int} {n:Int} (h:Xl xs S) (hn:zF n xs=true):Xl xs (XD S n):=⟨N1 h.nodup,fun m hm=>by
 rcases kK.1 hm with hm | rfl
 ·exact h.has m hm
 ·exact hn⟩
theorem zcy {S:List Int} {n:Int} {j:Nat} (h:j<S.length):((S.take (j+1)).any fun m=>decide (m=n))=(((S.take j).any fun m=>decide (m=n))||decide (S[j]=n)):=by
 rw[List.take_add_one,List.getElem?_eq_getElem h,List.any_append]
 simp
theorem zkw {S:List Int} {n:Int}:(S.any fun m=>decide (m=n))=decide (n∈S):=by
 rw[Bool.eq_iff_iff,List.any_eq_true,decide_eq_true_iff]
 constructor
 ·rintro ⟨m,hm,h⟩;exact (of_decide_eq_true h)▸hm
 ·exact fun h=>⟨n,h,decide_eq_true rfl⟩
theorem v7 (S:List Int) (i:Nat) (h:i<S.length):(zbC S)[i]?=some [.sc (.int .i64 S[i])]:=by simp[List.getElem?_map,List.getElem?_eq_getElem h]
section
variable {G:zm}
theorem Nm (f:FsV) (hf:FsS f) (h3:YH f) (h1:zF 1 f.xs=true):Fun Tryz.prog G 71 [.agg (fsC f)] (.sc (.bool (decide (Q4 f)))) 0:=by
 have hll:(zp f.xs).length=f.xs.length:=List.length_map ..
 have h40:=hf.len
 refine Fun.of (fun i=>if i=5 then kl 9 10 else []) Tryz.func71 rfl (zi rfl) (by kernel_rfl) ?_;dsimp only[Tryz.f71]
 push_cast -dsimp
 refine loop (fun p:Nat×List Int=>⟨[(1,.ptr 0 0),(3,.own 0 3 1 (zbC p.2)),(4,.sc (.int .i64 p.1))],[fsC f],1,0⟩) (fun p=>p.1<=p.2.length/\Xl f.xs p.2/\UC f.xs (f.xs.length+1-p.1) p.1 p.2=UC f.xs (f.xs.length+1) 0 [1]) (fun p=>f.xs.length+1-p.1) (0,[1]) ⟨Nat.zero_le _,⟨by simp,fun n hn=>by simp at hn;subst hn;exact h1⟩,rfl⟩ ?_ ?_
 ·exact zH.mk [.inl 0] rfl rfl (Nat.zero_le _) rfl (by push_cast -dsimp [zb,za,CLe,zd]) (by push_cast -dsimp [zb,za,CLe,zd])
 ·rintro ⟨i,S⟩ ⟨k1,k2,k3⟩
  dsimp only at k1 k2 k3 ⊢
  have hSl:=k2.len
  have hli:(zbC S).length=S.length:=List.length_map ..
  by_cases h:i<S.length
  ·have g0:=v7 S i h
   obtain ⟨hm,hino⟩:=jf (k2.has S[i] (List.getElem_mem h))
   push_cast -dsimp [hli,h,g0]
   (try simp only[lS]);repeat refine And.intro (by omega) ?_
   refine cl (qC f S[i] (by omega)) ?_;push_cast -dsimp
   rw[show f.xs.length+1-i=(f.xs.length+1-(i+1))+1 by omega,UC,List.getElem?_eq_getElem h]at k3
   dsimp only at k3
   generalize zg S[i] f.xs=x at hm hino k3
   have hx40:=(hf.node x hm).1
   have hle:(zG x.es).length=x.es.length:=List.length_map ..
   refine loop (fun k:Nat=>⟨[(1,.ptr 0 0),(3,.own 0 3 1 (zbC (NR S (x.es.take k)))),(4,.sc (.int .i64 i)),(5,.ptr 1 0),(7,.sc (.int .i64 k))],[fsC f,JU x],1,0⟩) (fun k=>k<=x.es.length/\Xl f.xs (NR S (x.es.take k))) (fun k=>x.es.length-k) 0 ⟨Nat.zero_le _,k2⟩ ?_ ?_
   ·exact zH.mk [.inl 0] rfl rfl (Nat.zero_le _) rfl (by push_cast -dsimp [zb,za,CLe,zd,List.take_zero,NR,List.foldl_nil]) (by push_cast -dsimp [zb,za,CLe,zd])
   ·rintro k ⟨hk0,k4⟩
    by_cases hk:k<x.es.length
    ·have g2:=j0 x.es k hk
     have hT:=k4.len
     have ht:=zcO (S:=S) hk
     have hhas:zF x.es[k].ino f.xs=true:=h3 x hm _ (List.getElem_mem hk)
     have k5:=k4.one hhas
     rw[←ht]at k5
     generalize hT1:NR S (x.es.take (k+1))=T1 at ht k5
     generalize NR S (x.es.take k)=T at k4 hT ht
     have hlT:(zbC T).length=T.length:=List.length_map ..
     generalize hn:x.es[k].ino=n at g2 ht
     push_cast -dsimp [hle,hk]
     refine loop (fun j:Nat=>⟨[(1,.ptr 0 0),(3,.own 0 3 1 (zbC T)),(4,.sc (.int .i64 i)),(5,.ptr 1 0),(7,.sc (.int .i64 k)),(8,.sc (.bool ((T.take j).any fun m=>decide (m=n)))),(9,.sc (.int .i64 j))],[fsC f,JU x],1,0⟩) (fun j=>j<=T.length) (fun j=>T.length-j) 0 (Nat.zero_le _) ?_ ?_
     ·exact zH.mk [.inl 0] rfl rfl (Nat.zero_le _) rfl (by push_cast -dsimp [zb,za,CLe,zd,List.take_zero,List.any_nil]) (by push_cast -dsimp [zb,za,CLe,zd])
     ·intro j hj0
      by_cases hj:j<T.length
      ·have g3:=v7 T j hj
       have ha:=zcy (n:=n) hj
       by_cases hq:((T.take j).any fun m=>decide (m=n))=true
       ·rw[hq,Bool.true_or]at ha
        push_cast -dsimp [hlT,hj,hq]
        (try simp only[lS]);repeat refine And.intro (by omega) ?_
        exact ⟨j+1,hj,by omega,zH.mk [.inl 0] rfl rfl (Nat.zero_le _) rfl (by push_cast -dsimp [zb,za,CLe,zd,ha]) (by push_cast -dsimp [zb,za,CLe,zd])⟩
       ·have hq:=Bool.eq_false_iff.2 hq
        rw[hq,Bool.false_or]at ha
        push_cast -dsimp [hlT,hj,hq,g3,g2,hn]
        (try simp only[lS]);repeat refine And.intro (by omega) ?_
        exact ⟨j+1,hj,by omega,zH.mk [.inl 0] rfl rfl (Nat.zero_le _) rfl (by push_cast -dsimp [zb,za,CLe,zd,ha]) (by push_cast -dsimp [zb,za,CLe,zd])⟩
      ·have hTj:(T.take j)=T:=List.take_of_length_le (by omega)
       have hany:=zkw (S:=T) (n:=n)
       unfold XD at ht
       by_cases hin:n∈T
       ·rw[if_pos hin]at ht
        rw[decide_eq_true hin]at hany
        push_cast -dsimp [hlT,hj,hTj,hany]
        (try simp only[lS]);repeat refine And.intro (by omega) ?_
        exact ⟨k+1,⟨hk,by rw[hT1];exact k5⟩,by omega,zH.mk [.inl 0] rfl rfl (Nat.zero_le _) rfl (by push_cast -dsimp [zb,za,CLe,zd,hT1,ht]) (by push_cast -dsimp [zb,za,CLe,zd])⟩
       ·rw[if_neg hin]at ht
        rw[decide_eq_false hin]at hany
        push_cast -dsimp [hlT,hj,hTj,hany,g2,hn]
        (try simp only[lS]);repeat refine And.intro (by omega) ?_
        exact ⟨k+1,⟨hk,by rw[hT1];exact k5⟩,by omega,zH.mk [.inl 0] rfl rfl (Nat.zero_le _) rfl (by push_cast -dsimp [zb,za,CLe,zd,hT1,ht,List.map_append]) (by push_cast -dsimp [zb,za,CLe,zd])⟩
    ·have hkk:x.es.take k=x.es:=List.take_of_length_le (by omega)
     rw[hkk]at k4
     have hge:i+1<=(NR S x.es).length:=Nat.le_trans h (zf8 S x.es)
     push_cast -dsimp [hle,hk,hkk]
     (try simp only[lS]);repeat refine And.intro (by omega) ?_
     exact ⟨(i+1,NR S x.es),⟨hge,k4,k3⟩,by dsimp only;omega,zH.mk [.inl 0] rfl rfl (Nat.zero_le _) rfl (by push_cast -dsimp [zb,za,CLe,zd]) (by push_cast -dsimp [zb,za,CLe,zd])⟩
  ·push_cast -dsimp [hli,h]
   have hfin:UC f.xs (f.xs.length+1-i) i S=S:=by
    rw[show f.xs.length+1-i=(f.xs.length-i)+1 by omega,UC,List.getElem?_eq_none (by omega)]
   rw[hfin]at k3
   have hn:Q4 f↔S.length=f.xs.length:=by unfold Q4;rw[←k3]
   exact ⟨[],rfl,rfl,by push_cast -dsimp [zb,za,CLe,zd,hn,hll]⟩
end
end
section
open CA CB
open Go.RowKit
def Xi (es:List zZ):Prop:=∀ i (h:i<es.length),may es[i].name=true/\1<=es[i].ino/\(0<i->Op.bytesLess es[i-1].name es[i].name=true)
instance (es:List zZ):Decidable (Xi es):=by unfold Xi;infer_instance
def Yz (x:zy):Prop:=(x.kind=1∨x.kind=2∨x.kind=3)/\(x.kind≠2->x.es = []/\x.parent=0)/\(x.kind=2->x.data = []/\Xi x.es)/\(x.kind=3->1<=x.data.length/\x.data.length<=4095/\∀ b∈x.data,b≠0)
instance (x:zy):Decidable (Yz x):=by unfold Yz;infer_instance
def Y1 (f:FsV):Prop:=∀ x∈f.xs,Yz x
instance (f:FsV):Decidable (Y1 f):=by unfold Y1;infer_instance
def J1 (f:FsV):Int:=if Ju f then if Y1 f then if YH f then if YX f then if Q4 f then if Hn f then 0 else 6 else 5 else 4 else 3 else 2 else 1
def okV (f:FsV):Prop:=Vi f.xs/\J1 f=0
instance (f:FsV):Decidable (okV f):=by unfold okV;infer_instance
theorem zcF (es:List zZ) (hl:es.length<=100000) (hn:∀ e∈es,e.name.length<=1000000):Fun Tryz.prog G0 112 [.sl 2 (zG es)] (qD (decide (Xi es))) 0:=by
 have hle:(zG es).length=es.length:=List.length_map ..
 refine Fun.of (fun _=>[]) Tryz.func112 rfl (zi rfl) (by kernel_rfl) ?_;dsimp only[Tryz.f112]
 push_cast -dsimp
 refine loop (fun i:Nat=>⟨[(0,.sl 2 (zG es)),(3,.sc (.int .i64 i))],[],0,0⟩) (fun i=>i<=es.length/\∀ j (h:j<es.length),j<i->may es[j].name=true/\1<=es[j].ino/\(0<j->Op.bytesLess es[j-1].name es[j].name=true)) (fun i=>es.length-i) 0 ⟨Nat.zero_le _,fun j h h'=>absurd h' (Nat.not_lt_zero _)⟩ ?_ ?_
 ·exact zH.mk [] rfl rfl (Nat.zero_le _) rfl (by push_cast -dsimp [zb,za,CLe,zd]) (by push_cast -dsimp [zb,za,CLe,zd])
 ·rintro i ⟨h1,h2⟩
  by_cases h:i<es.length
  ·have g1:=j0 es i h
   have hm:=ZC es[i].name (hn _ (List.getElem_mem h))
   push_cast -dsimp [hle,h,g1]
   (try simp only[lS]);repeat refine And.intro (by omega) ?_
   cases c1:may es[i].name with
   | false =>
    have hno:¬Xi es:=fun hr=>by have:=(hr i h).1;rw[c1]at this;cases this
    refine cl (hm) ?_;push_cast -dsimp [c1]
    exact ⟨[],rfl,rfl,by push_cast -dsimp [zb,za,CLe,zd,hno]⟩
   | true =>
    by_cases c2:es[i].ino<1
    ·have hno:¬Xi es:=fun hr=>by have:=(hr i h).2.1;omega
     refine cl (hm) ?_;push_cast -dsimp [c1,g1,c2]
     (try simp only[lS]);repeat refine And.intro (by omega) ?_
     exact ⟨[],rfl,rfl,by push_cast -dsimp [zb,za,CLe,zd,hno]⟩
    ·have step:(0<i->Op.bytesLess es[i-1].name es[i].name=true)->∀ j (h:j<es.length),j<i+1->may es[j].name=true/\1<=es[j].ino/\(0<j->Op.bytesLess es[j-1].name es[j].name=true):=fun hb j hj hlt=>by
      rcases Nat.lt_or_ge j i with q | q
      ·exact h2 j hj q
      ·have:j=i:=by omega
       subst this
       exact ⟨c1,by omega,hb⟩
     by_cases c3:0<i
     ·have g2:=j0 es (i-1) (by omega)
      have e1:(i:Int)-1=((i-1:Nat):Int):=by omega
      cases c4:Op.bytesLess es[i-1].name es[i].name with
      | true =>
       refine cl (hm) ?_;push_cast -dsimp [c1,g1,c2]
       (try simp only[lS]);repeat refine And.intro (by omega) ?_
       push_cast -dsimp [c3,e1,g2,g1,c4]
       (try simp only[lS]);repeat refine And.intro (by omega) ?_
       exact ⟨i+1,⟨h,step fun _=>c4⟩,by omega,zH.mk [] rfl rfl (Nat.zero_le _) rfl (by push_cast -dsimp [zb,za,CLe,zd]) (by push_cast -dsimp [zb,za,CLe,zd])⟩
      | false =>
       have hno:¬Xi es:=fun hr=>by have:=(hr i h).2.2 c3;rw[c4]at this;cases this
       refine cl (hm) ?_;push_cast -dsimp [c1,g1,c2]
       (try simp only[lS]);repeat refine And.intro (by omega) ?_
       push_cast -dsimp [c3,e1,g2,g1,c4]
       (try simp only[lS]);repeat refine And.intro (by omega) ?_
       exact ⟨[],rfl,rfl,by push_cast -dsimp [zb,za,CLe,zd,hno]⟩
     ·refine cl (hm) ?_;push_cast -dsimp [c1,g1,c2]
      (try simp only[lS]);repeat refine And.intro (by omega) ?_
      push_cast -dsimp [c3]
      (try simp only[lS]);repeat refine And.intro (by omega) ?_
      exact ⟨i+1,⟨h,step fun h=>absurd h c3⟩,by omega,zH.mk [] rfl rfl (Nat.zero_le _) rfl (by push_cast -dsimp [zb,za,CLe,zd]) (by push_cast -dsimp [zb,za,CLe,zd])⟩
  ·have hr:Xi es:=fun j hj=>h2 j hj (by omega)
   push_cast -dsimp [hle,h]
   exact ⟨[],rfl,rfl,by push_cast -dsimp [zb,za,CLe,zd,hr]⟩
end
section
open CA CB
open Go.RowKit
theorem kR (f:FsV) (hf:FsS f):Fun Tryz.prog G0 68 [.agg (fsC f)] (qD (decide (Y1 f))) 0:=by
 have hll:(zp f.xs).length=f.xs.length:=List.length_map ..
 have h40:=hf.len
 refine Fun.of (fun _=>[]) Tryz.func68 rfl (zi rfl) (by kernel_rfl) ?_;dsimp only[Tryz.f68]
 push_cast -dsimp
 refine loop (fun i:Nat=>⟨[(1,.ptr 0 0),(3,.sc (.int .i64 i))],[fsC f],0,0⟩) (fun i=>i<=f.xs.length/\∀ x∈f.xs.take i,Yz x) (fun i=>f.xs.length-i) 0 ⟨Nat.zero_le _,fun x hx=>by simp at hx⟩ ?_ ?_
 ·exact zH.mk [] rfl rfl (Nat.zero_le _) rfl (by push_cast -dsimp [zb,za,CLe,zd]) (by push_cast -dsimp [zb,za,CLe,zd])
 ·rintro i ⟨h1,h2⟩
  by_cases h:i<f.xs.length
  case neg =>
   rw[List.take_of_length_le (by omega)]at h2
   have hn:Y1 f:=h2
   push_cast -dsimp [hll,h]
   exact ⟨[],rfl,rfl,by push_cast -dsimp [zb,za,CLe,zd,hn]⟩
  have g1:=qS f.xs i h
  have hbad:¬Yz f.xs[i]->¬Y1 f:=fun hn h'=>hn (h' _ (List.getElem_mem h))
  have hs:=hf.node _ (List.getElem_mem h)
  have step:Yz f.xs[i]->∀ x∈f.xs.take (i+1),Yz x:=fun hq=>qj h h2 hq
  push_cast -dsimp [hll,h,g1]
  (try simp only[lS]);repeat refine And.intro (by omega) ?_
  generalize f.xs[i]=x at g1 hbad hs step
  have hle:(zG x.es).length=x.es.length:=List.length_map ..
  have hent:x.es.length<=10000:=hs.1
  by_cases k2:x.kind=2
  ·by_cases d0:x.data = []
   ·have hr:=zcF x.es (by omega) fun e he=>by have:=hs.2.2 e he;omega
    cases c1:decide (Xi x.es) with
    | false =>
     have hn:=hbad fun hq=>of_decide_eq_false c1 (hq.2.2.1 k2).2
     push_cast -dsimp [k2,d0]
     refine cl (hr) ?_;push_cast -dsimp [c1]
     exact ⟨[],rfl,rfl,by push_cast -dsimp [zb,za,CLe,zd,hn]⟩
    | true =>
     have hq:Yz x:=⟨.inr (.inl k2),fun h=>absurd k2 h,fun _=>⟨d0,of_decide_eq_true c1⟩,fun h=>by omega⟩
     push_cast -dsimp [k2,d0]
     refine cl (hr) ?_;push_cast -dsimp [c1,k2]
     refine loop (fun j:Nat=>⟨[(1,.ptr 0 0),(3,.sc (.int .i64 i)),(4,.ptr 1 0),(5,.sc (.int .i64 j))],[fsC f,JU x],0,0⟩) (fun j=>j=0) (fun j=>0) 0 rfl ?_ ?_
     ·exact zH.mk [] rfl rfl (Nat.zero_le _) rfl (by push_cast -dsimp [zb,za,CLe,zd,k2,d0]) (by push_cast -dsimp [zb,za,CLe,zd,k2,d0])
     ·rintro j rfl
      push_cast -dsimp [d0]
      (try simp only[lS]);repeat refine And.intro (by omega) ?_
      exact ⟨i+1,⟨h,step hq⟩,by omega,zH.mk [] rfl rfl (Nat.zero_le _) rfl (by push_cast -dsimp [zb,za,CLe,zd]) (by push_cast -dsimp [zb,za,CLe,zd])⟩
   ·have hn:=hbad fun hq=>d0 (hq.2.2.1 k2).1
    push_cast -dsimp [k2,d0]
    exact ⟨[],rfl,rfl,by push_cast -dsimp [zb,za,CLe,zd,hn]⟩
  by_cases e0:x.es = []
  case neg =>
   have hn:=hbad fun hq=>e0 (hq.2.1 k2).1
   have hpos:0<(x.es.length:Int):=by have:=List.length_pos_iff.2 e0;omega
   by_cases k1:x.kind=1
   ·push_cast -dsimp [k1,hle,hpos]
    exact ⟨[],rfl,rfl,by push_cast -dsimp [zb,za,CLe,zd,hn]⟩
   ·by_cases k3:x.kind=3
    ·push_cast -dsimp [k1,k2,k3,hle,hpos]
     exact ⟨[],rfl,rfl,by push_cast -dsimp [zb,za,CLe,zd,hn]⟩
    ·have hn:=hbad fun hq=>by rcases hq.1 with q | q | q<;>contradiction
     push_cast -dsimp [k1,k2,k3]
     exact ⟨[],rfl,rfl,by push_cast -dsimp [zb,za,CLe,zd,hn]⟩
  have hl0:x.es.length=0:=by rw[e0];rfl
  by_cases p0:x.parent=0
  case neg =>
   have hn:=hbad fun hq=>p0 (hq.2.1 k2).2
   by_cases k1:x.kind=1
   ·push_cast -dsimp [k1,hle,hl0,p0]
    exact ⟨[],rfl,rfl,by push_cast -dsimp [zb,za,CLe,zd,hn]⟩
   ·by_cases k3:x.kind=3
    ·push_cast -dsimp [k1,k2,k3,hle,hl0,p0]
     exact ⟨[],rfl,rfl,by push_cast -dsimp [zb,za,CLe,zd,hn]⟩
    ·have hn:=hbad fun hq=>by rcases hq.1 with q | q | q<;>contradiction
     push_cast -dsimp [k1,k2,k3]
     exact ⟨[],rfl,rfl,by push_cast -dsimp [zb,za,CLe,zd,hn]⟩
  by_cases k1:x.kind=1
  ·have hq:Yz x:=⟨.inl k1,fun _=>⟨e0,p0⟩,fun h=>absurd h k2,fun h=>by omega⟩
   push_cast -dsimp [k1,hle,hl0,p0]
   refine loop (fun j:Nat=>⟨[(1,.ptr 0 0),(3,.sc (.int .i64 i)),(4,.ptr 1 0),(5,.sc (.int .i64 j))],[fsC f,JU x],0,0⟩) (fun j=>j=0) (fun j=>0) 0 rfl ?_ ?_
   ·exact zH.mk [] rfl rfl (Nat.zero_le _) rfl (by push_cast -dsimp [zb,za,CLe,zd,k1,p0]) (by push_cast -dsimp [zb,za,CLe,zd,k1,p0])
   ·rintro j rfl
    by_cases hd:(0:Int)<x.data.length
    ·push_cast -dsimp [hd,k1]
     (try simp only[lS]);repeat refine And.intro (by omega) ?_
     exact ⟨i+1,⟨h,step hq⟩,by omega,zH.mk [] rfl rfl (Nat.zero_le _) rfl (by push_cast -dsimp [zb,za,CLe,zd]) (by push_cast -dsimp [zb,za,CLe,zd])⟩
    ·push_cast -dsimp [hd,k1]
     (try simp only[lS]);repeat refine And.intro (by omega) ?_
     exact ⟨i+1,⟨h,step hq⟩,by omega,zH.mk [] rfl rfl (Nat.zero_le _) rfl (by push_cast -dsimp [zb,za,CLe,zd]) (by push_cast -dsimp [zb,za,CLe,zd])⟩
  by_cases k3:x.kind=3
  case neg =>
   have hn:=hbad fun hq=>by rcases hq.1 with q | q | q<;>contradiction
   push_cast -dsimp [k1,k2,k3]
   exact ⟨[],rfl,rfl,by push_cast -dsimp [zb,za,CLe,zd,hn]⟩
  by_cases l1:(x.data.length:Int)<1
  ·have hn:=hbad fun hq=>by have:=(hq.2.2.2 k3).1;omega
   push_cast -dsimp [k1,k2,k3,hle,hl0,p0,l1]
   exact ⟨[],rfl,rfl,by push_cast -dsimp [zb,za,CLe,zd,hn]⟩
  by_cases l2:4095<(x.data.length:Int)
  ·have hn:=hbad fun hq=>by have:=(hq.2.2.2 k3).2.1;omega
   push_cast -dsimp [k1,k2,k3,hle,hl0,p0,l1,l2]
   exact ⟨[],rfl,rfl,by push_cast -dsimp [zb,za,CLe,zd,hn]⟩
  push_cast -dsimp [k1,k2,k3,hle,hl0,p0,l1,l2]
  refine loop (fun j:Nat=>⟨[(1,.ptr 0 0),(3,.sc (.int .i64 i)),(4,.ptr 1 0),(5,.sc (.int .i64 j))],[fsC f,JU x],0,0⟩) (fun j=>j<=x.data.length/\∀ b∈x.data.take j,b≠0) (fun j=>x.data.length-j) 0 ⟨Nat.zero_le _,fun b hb=>by simp at hb⟩ ?_ ?_
  ·exact zH.mk [] rfl rfl (Nat.zero_le _) rfl (by push_cast -dsimp [zb,za,CLe,zd,k3,p0]) (by push_cast -dsimp [zb,za,CLe,zd,k3,p0])
  ·rintro j ⟨j1,j2⟩
   by_cases hj:j<x.data.length
   ·have hb:x.data[j]?=some x.data[j]:=List.getElem?_eq_getElem hj
    by_cases z:(x.data[j].toNat:Int)=0
    ·have hn:=hbad fun hq=>(hq.2.2.2 k3).2.2 _ (List.getElem_mem hj) (UInt8.toNat_inj.1 (by simpa using z))
     push_cast -dsimp [hj,k3,hb,z]
     (try simp only[lS]);repeat refine And.intro (by omega) ?_
     exact ⟨[],rfl,rfl,by push_cast -dsimp [zb,za,CLe,zd,hn]⟩
    ·push_cast -dsimp [hj,k3,hb,z]
     (try simp only[lS]);repeat refine And.intro (by omega) ?_
     exact ⟨j+1,⟨hj,qj hj j2 fun hz=>z (by rw[hz];rfl)⟩,by omega,zH.mk [] rfl rfl (Nat.zero_le _) rfl (by push_cast -dsimp [zb,za,CLe,zd]) (by push_cast -dsimp [zb,za,CLe,zd])⟩
   ·rw[List.take_of_length_le (by omega)]at j2
    have hq:Yz x:=⟨.inr (.inr k3),fun _=>⟨e0,p0⟩,fun h=>absurd h k2,fun _=>⟨by omega,by omega,j2⟩⟩
    push_cast -dsimp [hj,k3]
    (try simp only[lS]);repeat refine And.intro (by omega) ?_
    exact ⟨i+1,⟨h,step hq⟩,by omega,zH.mk [] rfl rfl (Nat.zero_le _) rfl (by push_cast -dsimp [zb,za,CLe,zd]) (by push_cast -dsimp [zb,za,CLe,zd])⟩
theorem zcC (f:FsV) (hf:FsS f):Fun Tryz.prog G0 37 [.agg (fsC f)] (.sc (.int .i64 (J1 f))) 0:=by
 have h40:=hf.len
 have hb:ja f.xs<=100000000:=by have:=hf.bytes;omega
 refine Fun.of (fun _=>[]) Tryz.func37 rfl (zi rfl) (by kernel_rfl) ?_;dsimp only[Tryz.f37]
 push_cast -dsimp
 by_cases c1:Ju f
 case neg =>
  refine cl (NU f (by omega)) ?_;push_cast -dsimp [decide_eq_false c1]
  exact ⟨[],rfl,rfl,by push_cast -dsimp [zb,za,CLe,zd,J1,c1]⟩
 refine cl (NU f (by omega)) ?_;push_cast -dsimp [decide_eq_true c1]
 by_cases c2:Y1 f
 case neg =>
  refine cl (kR f hf) ?_;push_cast -dsimp [decide_eq_false c2]
  exact ⟨[],rfl,rfl,by push_cast -dsimp [zb,za,CLe,zd,J1,c1,c2]⟩
 refine cl (kR f hf) ?_;push_cast -dsimp [decide_eq_true c2]
 by_cases c3:YH f
 case neg =>
  refine cl (Ny f hf) ?_;push_cast -dsimp [decide_eq_false c3]
  exact ⟨[],rfl,rfl,by push_cast -dsimp [zb,za,CLe,zd,J1,c1,c2,c3]⟩
 refine cl (Ny f hf) ?_;push_cast -dsimp [decide_eq_true c3]
 by_cases c4:YX f
 case neg =>
  refine cl (k9 f hf) ?_;push_cast -dsimp [decide_eq_false c4]
  exact ⟨[],rfl,rfl,by push_cast -dsimp [zb,za,CLe,zd,J1,c1,c2,c3,c4]⟩
 refine cl (k9 f hf) ?_;push_cast -dsimp [decide_eq_true c4]
 by_cases c5:Q4 f
 case neg =>
  refine cl (Nm f hf c3 c1.2.2.2.2.2.2.2.1) ?_;push_cast -dsimp [decide_eq_false c5]
  exact ⟨[],rfl,rfl,by push_cast -dsimp [zb,za,CLe,zd,J1,c1,c2,c3,c4,c5]⟩
 refine cl (Nm f hf c3 c1.2.2.2.2.2.2.2.1) ?_;push_cast -dsimp [decide_eq_true c5]
 by_cases c6:Hn f
 case neg =>
  refine cl (vp f hf hb) ?_;push_cast -dsimp [decide_eq_false c6]
  exact ⟨[],rfl,rfl,by push_cast -dsimp [zb,za,CLe,zd,J1,c1,c2,c3,c4,c5,c6]⟩
 refine cl (vp f hf hb) ?_;push_cast -dsimp [decide_eq_true c6]
 exact ⟨[],rfl,rfl,by push_cast -dsimp [zb,za,CLe,zd,J1,c1,c2,c3,c4,c5,c6]⟩
end
section
open CA CB
open Go.RowKit
def jA (x:zy) (k:zN):Bool:=decide (k.ino=x.ino)&&!k.content
def qI (w:qv) (x:zy):Prop:=zF x.ino w.fs.xs=false/\1<=x.ino/\x.ino<w.fs.next/\x.links=0/\x.parent=0/\x.es = []/\(x.kind=1∨x.kind=2∨x.kind=3)/\(x.kind=2->x.data = [])/\(x.kind=3->1<=x.data.length/\x.data.length<=4095/\∀ b∈x.data,b≠0)/\w.kept.any (jA x)=true
instance (w:qv) (x:zy):Decidable (qI w x):=by unfold qI;infer_instance
theorem zoD {α:Type} {P:α->Bool} {l:List α} {k:Nat} (h:k<l.length):(l.take (k+1)).any P=((l.take k).any P||P l[k]):=by
 rw[List.take_add_one,List.getElem?_eq_getElem h,List.any_append];simp
theorem uH (w:qv) (x:zy) (hl:w.fs.xs.length<=100000) (hk:w.kept.length<=100000) (he:x.es.length<=100000) (hd:x.data.length<=100000):Fun Tryz.prog G0 51 [jv w,.agg (JU x)] (qD (decide (qI w x))) 0:=by
 have hg:=qC (G:=G0) w.fs x.ino hl
 have hkl:(zE w.kept).length=w.kept.length:=List.length_map ..
 have hle:(zG x.es).length=x.es.length:=List.length_map ..
 by_cases c1:zF x.ino w.fs.xs=true
 ·have hn:¬qI w x:=fun h=>by have:=h.1;rw[c1]at this;cases this
  rw[c1]at hg
  refine Fun.of (fun _=>[]) Tryz.func51 rfl (zi rfl) (by kernel_rfl) ?_;dsimp only[Tryz.f51]
  push_cast -dsimp
  refine cl (hg) ?_;push_cast -dsimp
  exact ⟨[],rfl,rfl,by push_cast -dsimp [zb,za,CLe,zd,hn]⟩
 have c1:=Bool.eq_false_iff.2 c1
 rw[c1]at hg
 by_cases c2:x.ino<1
 case pos =>
  have hn:¬qI w x:=fun h=>by have:=h.2.1;omega
  refine Fun.of (fun _=>[]) Tryz.func51 rfl (zi rfl) (by kernel_rfl) ?_;dsimp only[Tryz.f51]
  push_cast -dsimp
  refine cl (hg) ?_;push_cast -dsimp [hle,c2]
  exact ⟨[],rfl,rfl,by push_cast -dsimp [zb,za,CLe,zd,hn]⟩
 by_cases c3:w.fs.next<=x.ino
 case pos =>
  have hn:¬qI w x:=fun h=>by have:=h.2.2.1;omega
  refine Fun.of (fun _=>[]) Tryz.func51 rfl (zi rfl) (by kernel_rfl) ?_;dsimp only[Tryz.f51]
  push_cast -dsimp
  refine cl (hg) ?_;push_cast -dsimp [hle,c2,c3]
  exact ⟨[],rfl,rfl,by push_cast -dsimp [zb,za,CLe,zd,hn]⟩
 by_cases c4:x.links=0
 case neg =>
  have hn:¬qI w x:=fun h=>c4 h.2.2.2.1
  refine Fun.of (fun _=>[]) Tryz.func51 rfl (zi rfl) (by kernel_rfl) ?_;dsimp only[Tryz.f51]
  push_cast -dsimp
  refine cl (hg) ?_;push_cast -dsimp [hle,c2,c3,c4]
  exact ⟨[],rfl,rfl,by push_cast -dsimp [zb,za,CLe,zd,hn]⟩
 by_cases c5:x.parent=0
 case neg =>
  have hn:¬qI w x:=fun h=>c5 h.2.2.2.2.1
  refine Fun.of (fun _=>[]) Tryz.func51 rfl (zi rfl) (by kernel_rfl) ?_;dsimp only[Tryz.f51]
  push_cast -dsimp
  refine cl (hg) ?_;push_cast -dsimp [hle,c2,c3,c4,c5]
  exact ⟨[],rfl,rfl,by push_cast -dsimp [zb,za,CLe,zd,hn]⟩
 by_cases c6:(x.es.length:Int)=0
 case neg =>
  have hn:¬qI w x:=fun h=>c6 (by rw[h.2.2.2.2.2.1];rfl)
  refine Fun.of (fun _=>[]) Tryz.func51 rfl (zi rfl) (by kernel_rfl) ?_;dsimp only[Tryz.f51]
  push_cast -dsimp
  refine cl (hg) ?_;push_cast -dsimp [hle,c2,c3,c4,c5,c6]
  exact ⟨[],rfl,rfl,by push_cast -dsimp [zb,za,CLe,zd,hn]⟩
 by_cases c7:x.kind<1
 case pos =>
  have hn:¬qI w x:=fun h=>by have:=h.2.2.2.2.2.2.1;omega
  refine Fun.of (fun _=>[]) Tryz.func51 rfl (zi rfl) (by kernel_rfl) ?_;dsimp only[Tryz.f51]
  push_cast -dsimp
  refine cl (hg) ?_;push_cast -dsimp [hle,c2,c3,c4,c5,c6,c7]
  exact ⟨[],rfl,rfl,by push_cast -dsimp [zb,za,CLe,zd,hn]⟩
 by_cases c8:3<x.kind
 case pos =>
  have hn:¬qI w x:=fun h=>by have:=h.2.2.2.2.2.2.1;omega
  refine Fun.of (fun _=>[]) Tryz.func51 rfl (zi rfl) (by kernel_rfl) ?_;dsimp only[Tryz.f51]
  push_cast -dsimp
  refine cl (hg) ?_;push_cast -dsimp [hle,c2,c3,c4,c5,c6,c7,c8]
  exact ⟨[],rfl,rfl,by push_cast -dsimp [zb,za,CLe,zd,hn]⟩
 have hes:x.es = []:=List.eq_nil_of_length_eq_zero (by omega)
 have hkd:x.kind=1∨x.kind=2∨x.kind=3:=by omega
 have key:(x.kind=2->x.data = [])->(x.kind=3->1<=x.data.length/\x.data.length<=4095/\∀ b∈x.data,b≠0)->decide (qI w x)=w.kept.any (jA x):=fun q1 q2=>by
  cases hn:w.kept.any (jA x) with
  | true=>exact decide_eq_true ⟨c1,by omega,by omega,c4,c5,hes,hkd,q1,q2,hn⟩
  | false=>exact decide_eq_false fun h=>by have:=h.2.2.2.2.2.2.2.2.2;rw[hn]at this;cases this
 by_cases k2:x.kind=2
 ·by_cases d0:x.data = []
  ·have hdl:((0:Int)<x.data.length)=False:=eq_false (by rw[d0];simp)
   refine Fun.of (fun _=>[]) Tryz.func51 rfl (zi rfl) (by kernel_rfl) ?_;dsimp only[Tryz.f51]
   push_cast -dsimp
   refine cl (hg) ?_;push_cast -dsimp [hle,c2,c3,c4,c5,c6,c7,c8,k2,d0,hdl]
   refine loop (fun j:Nat=>⟨[(2,.ptr 0 0),(3,.ptr 1 0),(7,.sc (.int .i64 j))],[kg w,JU x],0,0⟩) (fun j=>j=0) (fun j=>0) 0 rfl ?_ ?_
   ·exact zH.mk [] rfl rfl (Nat.zero_le _) rfl (by push_cast -dsimp [zb,za,CLe,zd]) (by push_cast -dsimp [zb,za,CLe,zd,k2,d0,c4,c5])
   ·rintro j rfl
    push_cast -dsimp [hdl,d0]
    refine loop (fun i:Nat=>⟨[(2,.ptr 0 0),(3,.ptr 1 0),(8,.sc (.bool ((w.kept.take i).any (jA x)))),(9,.sc (.int .i64 i))],[kg w,JU x],0,0⟩) (fun i=>i<=w.kept.length) (fun i=>w.kept.length-i) 0 (Nat.zero_le _) ?_ ?_
    ·exact zH.mk [] rfl rfl (Nat.zero_le _) rfl (by push_cast -dsimp [zb,za,CLe,zd,List.take_zero,List.any_nil]) (by push_cast -dsimp [zb,za,CLe,zd])
    ·intro i hi
     by_cases h:i<w.kept.length
     ·have g:=jj w.kept i h
      have ha:=zoD (P:=jA x) h
      have hp:jA x w.kept[i]=(decide (w.kept[i].ino=x.ino)&&!w.kept[i].content):=rfl
      by_cases hn:((w.kept.take i).any (jA x))=true
      ·rw[hn,Bool.true_or]at ha
       push_cast -dsimp [hkl,h,hn]
       (try simp only[lS]);repeat refine And.intro (by omega) ?_
       exact ⟨i+1,h,by omega,zH.mk [] rfl rfl (Nat.zero_le _) rfl (by push_cast -dsimp [zb,za,CLe,zd,ha]) (by push_cast -dsimp [zb,za,CLe,zd])⟩
      ·have hn:=Bool.eq_false_iff.2 hn
       rw[hn,Bool.false_or,hp]at ha
       by_cases he:w.kept[i].ino=x.ino
       ·rw[decide_eq_true he,Bool.true_and]at ha
        push_cast -dsimp [hkl,h,hn,g,he]
        (try simp only[lS]);repeat refine And.intro (by omega) ?_
        exact ⟨i+1,h,by omega,zH.mk [] rfl rfl (Nat.zero_le _) rfl (by push_cast -dsimp [zb,za,CLe,zd,ha]) (by push_cast -dsimp [zb,za,CLe,zd])⟩
       ·rw[decide_eq_false he,Bool.false_and]at ha
        push_cast -dsimp [hkl,h,hn,g,he]
        (try simp only[lS]);repeat refine And.intro (by omega) ?_
        exact ⟨i+1,h,by omega,zH.mk [] rfl rfl (Nat.zero_le _) rfl (by push_cast -dsimp [zb,za,CLe,zd,ha]) (by push_cast -dsimp [zb,za,CLe,zd])⟩
     ·rw[List.take_of_length_le (by omega)]
      have hd:decide (qI w x)=w.kept.any (jA x):=key (fun _=>d0) (fun h=>by omega)
      push_cast -dsimp [hkl,h]
      exact ⟨[],rfl,rfl,by push_cast -dsimp [zb,za,CLe,zd,hd]⟩
  ·have hn:¬qI w x:=fun h=>d0 (h.2.2.2.2.2.2.2.1 k2)
   refine Fun.of (fun _=>[]) Tryz.func51 rfl (zi rfl) (by kernel_rfl) ?_;dsimp only[Tryz.f51]
   push_cast -dsimp
   refine cl (hg) ?_;push_cast -dsimp [hle,c2,c3,c4,c5,c6,c7,c8,k2,d0]
   exact ⟨[],rfl,rfl,by push_cast -dsimp [zb,za,CLe,zd,hn]⟩
 by_cases k3:x.kind=3
 ·by_cases l1:(x.data.length:Int)<1
  ·have hn:¬qI w x:=fun h=>by have:=(h.2.2.2.2.2.2.2.2.1 k3).1;omega
   refine Fun.of (fun _=>[]) Tryz.func51 rfl (zi rfl) (by kernel_rfl) ?_;dsimp only[Tryz.f51]
   push_cast -dsimp
   refine cl (hg) ?_;push_cast -dsimp [hle,c2,c3,c4,c5,c6,c7,c8,k2,k3,l1]
   exact ⟨[],rfl,rfl,by push_cast -dsimp [zb,za,CLe,zd,hn]⟩
  by_cases l2:4095<(x.data.length:Int)
  ·have hn:¬qI w x:=fun h=>by have:=(h.2.2.2.2.2.2.2.2.1 k3).2.1;omega
   refine Fun.of (fun _=>[]) Tryz.func51 rfl (zi rfl) (by kernel_rfl) ?_;dsimp only[Tryz.f51]
   push_cast -dsimp
   refine cl (hg) ?_;push_cast -dsimp [hle,c2,c3,c4,c5,c6,c7,c8,k2,k3,l1,l2]
   exact ⟨[],rfl,rfl,by push_cast -dsimp [zb,za,CLe,zd,hn]⟩
  refine Fun.of (fun _=>[]) Tryz.func51 rfl (zi rfl) (by kernel_rfl) ?_;dsimp only[Tryz.f51]
  push_cast -dsimp
  refine cl (hg) ?_;push_cast -dsimp [hle,c2,c3,c4,c5,c6,c7,c8,k2,k3,l1,l2]
  refine loop (fun j:Nat=>⟨[(2,.ptr 0 0),(3,.ptr 1 0),(7,.sc (.int .i64 j))],[kg w,JU x],0,0⟩) (fun j=>j<=x.data.length/\∀ b∈x.data.take j,b≠0) (fun j=>x.data.length-j) 0 ⟨Nat.zero_le _,fun b hb=>by simp at hb⟩ ?_ ?_
  ·exact zH.mk [] rfl rfl (Nat.zero_le _) rfl (by push_cast -dsimp [zb,za,CLe,zd]) (by push_cast -dsimp [zb,za,CLe,zd,k3,c4,c5])
  ·rintro j ⟨j1,j2⟩
   by_cases hj:j<x.data.length
   ·have hb:x.data[j]?=some x.data[j]:=List.getElem?_eq_getElem hj
    by_cases z:(x.data[j].toNat:Int)=0
    ·have hn:¬qI w x:=fun h=>(h.2.2.2.2.2.2.2.2.1 k3).2.2 _ (List.getElem_mem hj) (UInt8.toNat_inj.1 (by simpa using z))
     push_cast -dsimp [hj,k3,hb,z]
     (try simp only[lS]);repeat refine And.intro (by omega) ?_
     exact ⟨[],rfl,rfl,by push_cast -dsimp [zb,za,CLe,zd,hn]⟩
    ·push_cast -dsimp [hj,k3,hb,z]
     (try simp only[lS]);repeat refine And.intro (by omega) ?_
     exact ⟨j+1,⟨hj,qj hj j2 fun hz=>z (by rw[hz];rfl)⟩,by omega,zH.mk [] rfl rfl (Nat.zero_le _) rfl (by push_cast -dsimp [zb,za,CLe,zd]) (by push_cast -dsimp [zb,za,CLe,zd])⟩
   ·rw[List.take_of_length_le (by omega)]at j2
    push_cast -dsimp [hj,k3]
    refine loop (fun i:Nat=>⟨[(2,.ptr 0 0),(3,.ptr 1 0),(8,.sc (.bool ((w.kept.take i).any (jA x)))),(9,.sc (.int .i64 i))],[kg w,JU x],0,0⟩) (fun i=>i<=w.kept.length) (fun i=>w.kept.length-i) 0 (Nat.zero_le _) ?_ ?_
    ·exact zH.mk [] rfl rfl (Nat.zero_le _) rfl (by push_cast -dsimp [zb,za,CLe,zd,List.take_zero,List.any_nil]) (by push_cast -dsimp [zb,za,CLe,zd])
    ·intro i hi
     by_cases h:i<w.kept.length
     ·have g:=jj w.kept i h
      have ha:=zoD (P:=jA x) h
      have hp:jA x w.kept[i]=(decide (w.kept[i].ino=x.ino)&&!w.kept[i].content):=rfl
      by_cases hn:((w.kept.take i).any (jA x))=true
      ·rw[hn,Bool.true_or]at ha
       push_cast -dsimp [hkl,h,hn]
       (try simp only[lS]);repeat refine And.intro (by omega) ?_
       exact ⟨i+1,h,by omega,zH.mk [] rfl rfl (Nat.zero_le _) rfl (by push_cast -dsimp [zb,za,CLe,zd,ha]) (by push_cast -dsimp [zb,za,CLe,zd])⟩
      ·have hn:=Bool.eq_false_iff.2 hn
       rw[hn,Bool.false_or,hp]at ha
       by_cases he:w.kept[i].ino=x.ino
       ·rw[decide_eq_true he,Bool.true_and]at ha
        push_cast -dsimp [hkl,h,hn,g,he]
        (try simp only[lS]);repeat refine And.intro (by omega) ?_
        exact ⟨i+1,h,by omega,zH.mk [] rfl rfl (Nat.zero_le _) rfl (by push_cast -dsimp [zb,za,CLe,zd,ha]) (by push_cast -dsimp [zb,za,CLe,zd])⟩
       ·rw[decide_eq_false he,Bool.false_and]at ha
        push_cast -dsimp [hkl,h,hn,g,he]
        (try simp only[lS]);repeat refine And.intro (by omega) ?_
        exact ⟨i+1,h,by omega,zH.mk [] rfl rfl (Nat.zero_le _) rfl (by push_cast -dsimp [zb,za,CLe,zd,ha]) (by push_cast -dsimp [zb,za,CLe,zd])⟩
     ·rw[List.take_of_length_le (by omega)]
      have hd:decide (qI w x)=w.kept.any (jA x):=key (fun h=>absurd h k2) (fun _=>⟨by omega,by omega,j2⟩)
      push_cast -dsimp [hkl,h]
      exact ⟨[],rfl,rfl,by push_cast -dsimp [zb,za,CLe,zd,hd]⟩
 ·have k1:x.kind=1:=by omega
  refine Fun.of (fun _=>[]) Tryz.func51 rfl (zi rfl) (by kernel_rfl) ?_;dsimp only[Tryz.f51]
  push_cast -dsimp
  refine cl (hg) ?_;push_cast -dsimp [hle,c2,c3,c4,c5,c6,c7,c8,k2,k3]
  refine loop (fun j:Nat=>⟨[(2,.ptr 0 0),(3,.ptr 1 0),(7,.sc (.int .i64 j))],[kg w,JU x],0,0⟩) (fun j=>j=0) (fun j=>0) 0 rfl ?_ ?_
  ·exact zH.mk [] rfl rfl (Nat.zero_le _) rfl (by push_cast -dsimp [zb,za,CLe,zd]) (by push_cast -dsimp [zb,za,CLe,zd,c4,c5])
  ·rintro j rfl
   by_cases hd0:(0:Int)<x.data.length
   ·push_cast -dsimp [hd0,k3]
    refine loop (fun i:Nat=>⟨[(2,.ptr 0 0),(3,.ptr 1 0),(8,.sc (.bool ((w.kept.take i).any (jA x)))),(9,.sc (.int .i64 i))],[kg w,JU x],0,0⟩) (fun i=>i<=w.kept.length) (fun i=>w.kept.length-i) 0 (Nat.zero_le _) ?_ ?_
    ·exact zH.mk [] rfl rfl (Nat.zero_le _) rfl (by push_cast -dsimp [zb,za,CLe,zd,List.take_zero,List.any_nil]) (by push_cast -dsimp [zb,za,CLe,zd])
    ·intro i hi
     by_cases h:i<w.kept.length
     ·have g:=jj w.kept i h
      have ha:=zoD (P:=jA x) h
      have hp:jA x w.kept[i]=(decide (w.kept[i].ino=x.ino)&&!w.kept[i].content):=rfl
      by_cases hn:((w.kept.take i).any (jA x))=true
      ·rw[hn,Bool.true_or]at ha
       push_cast -dsimp [hkl,h,hn]
       (try simp only[lS]);repeat refine And.intro (by omega) ?_
       exact ⟨i+1,h,by omega,zH.mk [] rfl rfl (Nat.zero_le _) rfl (by push_cast -dsimp [zb,za,CLe,zd,ha]) (by push_cast -dsimp [zb,za,CLe,zd])⟩
      ·have hn:=Bool.eq_false_iff.2 hn
       rw[hn,Bool.false_or,hp]at ha
       by_cases he:w.kept[i].ino=x.ino
       ·rw[decide_eq_true he,Bool.true_and]at ha
        push_cast -dsimp [hkl,h,hn,g,he]
        (try simp only[lS]);repeat refine And.intro (by omega) ?_
        exact ⟨i+1,h,by omega,zH.mk [] rfl rfl (Nat.zero_le _) rfl (by push_cast -dsimp [zb,za,CLe,zd,ha]) (by push_cast -dsimp [zb,za,CLe,zd])⟩
       ·rw[decide_eq_false he,Bool.false_and]at ha
        push_cast -dsimp [hkl,h,hn,g,he]
        (try simp only[lS]);repeat refine And.intro (by omega) ?_
        exact ⟨i+1,h,by omega,zH.mk [] rfl rfl (Nat.zero_le _) rfl (by push_cast -dsimp [zb,za,CLe,zd,ha]) (by push_cast -dsimp [zb,za,CLe,zd])⟩
     ·rw[List.take_of_length_le (by omega)]
      have hd:decide (qI w x)=w.kept.any (jA x):=key (fun h=>absurd h k2) (fun h=>absurd h k3)
      push_cast -dsimp [hkl,h]
      exact ⟨[],rfl,rfl,by push_cast -dsimp [zb,za,CLe,zd,hd]⟩
   ·push_cast -dsimp [hd0,k3]
    refine loop (fun i:Nat=>⟨[(2,.ptr 0 0),(3,.ptr 1 0),(8,.sc (.bool ((w.kept.take i).any (jA x)))),(9,.sc (.int .i64 i))],[kg w,JU x],0,0⟩) (fun i=>i<=w.kept.length) (fun i=>w.kept.length-i) 0 (Nat.zero_le _) ?_ ?_
    ·exact zH.mk [] rfl rfl (Nat.zero_le _) rfl (by push_cast -dsimp [zb,za,CLe,zd,List.take_zero,List.any_nil]) (by push_cast -dsimp [zb,za,CLe,zd])
    ·intro i hi
     by_cases h:i<w.kept.length
     ·have g:=jj w.kept i h
      have ha:=zoD (P:=jA x) h
      have hp:jA x w.kept[i]=(decide (w.kept[i].ino=x.ino)&&!w.kept[i].content):=rfl
      by_cases hn:((w.kept.take i).any (jA x))=true
      ·rw[hn,Bool.true_or]at ha
       push_cast -dsimp [hkl,h,hn]
       (try simp only[lS]);repeat refine And.intro (by omega) ?_
       exact ⟨i+1,h,by omega,zH.mk [] rfl rfl (Nat.zero_le _) rfl (by push_cast -dsimp [zb,za,CLe,zd,ha]) (by push_cast -dsimp [zb,za,CLe,zd])⟩
      ·have hn:=Bool.eq_false_iff.2 hn
       rw[hn,Bool.false_or,hp]at ha
       by_cases he:w.kept[i].ino=x.ino
       ·rw[decide_eq_true he,Bool.true_and]at ha
        push_cast -dsimp [hkl,h,hn,g,he]
        (try simp only[lS]);repeat refine And.intro (by omega) ?_
        exact ⟨i+1,h,by omega,zH.mk [] rfl rfl (Nat.zero_le _) rfl (by push_cast -dsimp [zb,za,CLe,zd,ha]) (by push_cast -dsimp [zb,za,CLe,zd])⟩
       ·rw[decide_eq_false he,Bool.false_and]at ha
        push_cast -dsimp [hkl,h,hn,g,he]
        (try simp only[lS]);repeat refine And.intro (by omega) ?_
        exact ⟨i+1,h,by omega,zH.mk [] rfl rfl (Nat.zero_le _) rfl (by push_cast -dsimp [zb,za,CLe,zd,ha]) (by push_cast -dsimp [zb,za,CLe,zd])⟩
     ·rw[List.take_of_length_le (by omega)]
      have hd:decide (qI w x)=w.kept.any (jA x):=key (fun h=>absurd h k2) (fun h=>absurd h k3)
      push_cast -dsimp [hkl,h]
      exact ⟨[],rfl,rfl,by push_cast -dsimp [zb,za,CLe,zd,hd]⟩
end
section
open CA CB
open Go.RowKit
def zfJ (w:qv):Prop:=(∀ k∈w.kept,k.data.length<=5000)/\Vi w.fs.xs/\Vi w.pool/\w.kept.length<=40
instance (w:qv):Decidable (zfJ w):=by unfold zfJ;infer_instance
def Xy (w:qv) (k:zN):Prop:=k.slot<=1073741824/\(zF k.ino w.fs.xs=true∨zF k.ino w.pool=true)/\(k.content=true->(if zF k.ino w.pool=true then zg k.ino w.pool else zg k.ino w.fs.xs).kind=1)/\(k.content=false->k.data = [])
instance (w:qv) (k:zN):Decidable (Xy w k):=by unfold Xy;infer_instance
def XL (ks:List zN):Prop:=qF jD zN.slot ks/\∀ k∈ks,1<=k.slot
instance (ks:List zN):Decidable (XL ks):=by unfold XL qF;infer_instance
def Xb (w:qv):Prop:=J1 w.fs=0/\qc w.pool/\(∀ x∈w.pool,qI w x)/\XL w.kept/\∀ k∈w.kept,Xy w k
instance (w:qv):Decidable (Xb w):=by unfold Xb;infer_instance
def okW (w:qv):Prop:=zfJ w/\Xb w
instance (w:qv):Decidable (okW w):=by unfold okW;infer_instance
theorem VS {ks:List zN} (h:XL ks):0<=jQ ks/\∀ k∈ks,k.slot<=jQ ks:=by
 rcases List.eq_nil_or_concat ks with rfl | ⟨l,b,rfl⟩
 ·exact ⟨Int.le_refl 0,fun k hk=>by cases hk⟩
 ·rw[List.concat_eq_append]at h ⊢
  have hl:jQ (l++[b])=b.slot:=by unfold jQ;rw[List.getLast?_append];rfl
  rw[hl]
  have hb:=h.2 b (by simp)
  refine ⟨by omega,fun k hk=>?_⟩
  rcases List.mem_append.1 hk with hk | hk
  ·have:=(List.pairwise_append.1 h.1).2.2 k hk b (by simp)
   have:k.slot<b.slot:=of_decide_eq_true this
   omega
  ·rw[List.mem_singleton.1 hk];exact Int.le_refl _
theorem VY {ks:List zN} {k:zN}:XL (ks++[k])↔XL ks/\jQ ks<k.slot:=by
 constructor
 ·rintro ⟨h1,h2⟩
  have h0:XL ks:=⟨(List.pairwise_append.1 h1).1,fun x hx=>h2 x (List.mem_append_left _ hx)⟩
  refine ⟨h0,?_⟩
  rcases List.eq_nil_or_concat ks with rfl | ⟨l,b,rfl⟩
  ·have:=h2 k (by simp)
   show (0:Int)<k.slot
   omega
  ·rw[List.concat_eq_append]at h1 ⊢
   have hl:jQ (l++[b])=b.slot:=by unfold jQ;rw[List.getLast?_append];rfl
   rw[hl]
   exact of_decide_eq_true ((List.pairwise_append.1 h1).2.2 b (by simp) k (by simp))
 ·rintro ⟨h,hk⟩
  obtain ⟨q1,q2⟩:=VS h
  refine ⟨List.pairwise_append.2 ⟨h.1,List.pairwise_singleton _ _,fun a ha b hb=>?_⟩,fun x hx=>?_⟩
  ·rw[List.mem_singleton.1 hb]
   have:=q2 a ha
   exact decide_eq_true (show a.slot<k.slot by omega)
  ·rcases List.mem_append.1 hx with hx | hx
   ·exact h.2 x hx
   ·rw[List.mem_singleton.1 hx];omega
theorem Hi (w:qv):Fun Tryz.prog G0 65 [jv w] (qD (decide (zfJ w))) 0:=by
 have hkl:(zE w.kept).length=w.kept.length:=List.length_map ..
 have hf:=vc (G:=G0) w.fs
 have hq:=Q3 (G:=G0) w
 have hp:=vc (G:=G0) ⟨0,0,0,w.pool⟩
 simp only at hp
 have fin:(∀ k∈w.kept.take 100,k.data.length<=5000)->(zfJ w↔Vi w.fs.xs/\Vi w.pool/\w.kept.length<=40):=fun h=>by
  refine ⟨fun q=>q.2,fun q=>⟨?_,q⟩⟩
  rw[List.take_of_length_le (by have:=q.2.2;omega)]at h
  exact h
 refine Fun.of (fun _=>[]) Tryz.func65 rfl (zi rfl) (by kernel_rfl) ?_;dsimp only[Tryz.f65]
 push_cast -dsimp
 refine loop (fun i:Nat=>⟨[(1,.ptr 0 0),(3,.sc (.int .i64 i))],[kg w],0,0⟩) (fun i=>i<=w.kept.length/\i<=100/\∀ k∈w.kept.take i,k.data.length<=5000) (fun i=>w.kept.length-i) 0 ⟨Nat.zero_le _,Nat.zero_le _,fun x hx=>by simp at hx⟩ ?_ ?_
 ·exact zH.mk [] rfl rfl (Nat.zero_le _) rfl (by push_cast -dsimp [zb,za,CLe,zd]) (by push_cast -dsimp [zb,za,CLe,zd])
 ·rintro i ⟨h1,h2,h3⟩
  have last:(∀ k∈w.kept.take 100,k.data.length<=5000)->decide (zfJ w)=(decide (Vi w.fs.xs)&&(decide (Vi w.pool)&&decide (w.kept.length<=40))):=fun h=>by
   have:=fin h
   by_cases a:Vi w.fs.xs<;>by_cases b:Vi w.pool<;>by_cases c:w.kept.length<=40<;>simp[this,a,b,c]
  by_cases h:i<w.kept.length
  ·by_cases h100:i<100
   ·have g:=jj w.kept i h
    have h100':((i:Int)<100)=True:=eq_true (by omega)
    by_cases hd:5000<(w.kept[i].data.length:Int)
    ·have hn:¬zfJ w:=fun q=>by have:=q.1 _ (List.getElem_mem h);omega
     push_cast -dsimp [hkl,h,h100',g,hd]
     (try simp only[lS]);repeat refine And.intro (by omega) ?_
     exact ⟨[],rfl,rfl,by push_cast -dsimp [zb,za,CLe,zd,hn]⟩
    ·push_cast -dsimp [hkl,h,h100',g,hd]
     (try simp only[lS]);repeat refine And.intro (by omega) ?_
     exact ⟨i+1,⟨h,h100,qj h h3 (by omega)⟩,by omega,zH.mk [] rfl rfl (Nat.zero_le _) rfl (by push_cast -dsimp [zb,za,CLe,zd]) (by push_cast -dsimp [zb,za,CLe,zd])⟩
   ·have h100':((i:Int)<100)=False:=eq_false (by omega)
    have e:i=100:=by omega
    have hl:=last (by rw[←e];exact h3)
    have h40:((w.kept.length:Int)<=40)=False:=eq_false (by omega)
    rw[decide_eq_false (show ¬w.kept.length<=40 by omega)]at hl
    rw[hl]
    by_cases a:Vi w.fs.xs
    ·by_cases b:Vi w.pool
     ·push_cast -dsimp [hkl,h,h100']
      refine cl (hf) ?_;push_cast -dsimp [decide_eq_true a]
      refine cl (hq) ?_;push_cast -dsimp
      refine cl (hp) ?_;push_cast -dsimp [decide_eq_true b,hkl,h40]
      exact ⟨[],rfl,rfl,by push_cast -dsimp [zb,za,CLe,zd,a,b,Bool.false_and]⟩
     ·push_cast -dsimp [hkl,h,h100']
      refine cl (hf) ?_;push_cast -dsimp [decide_eq_true a]
      refine cl (hq) ?_;push_cast -dsimp
      refine cl (hp) ?_;push_cast -dsimp [decide_eq_false b]
      exact ⟨[],rfl,rfl,by push_cast -dsimp [zb,za,CLe,zd,a,b,Bool.false_and]⟩
    ·push_cast -dsimp [hkl,h,h100']
     refine cl (hf) ?_;push_cast -dsimp [decide_eq_false a]
     exact ⟨[],rfl,rfl,by push_cast -dsimp [zb,za,CLe,zd,a,Bool.false_and]⟩
  ·rw[List.take_of_length_le (by omega)]at h3
   have hl:=last fun k hk=>h3 k (List.mem_of_mem_take hk)
   rw[hl]
   by_cases a:Vi w.fs.xs
   ·by_cases b:Vi w.pool
    ·by_cases c:w.kept.length<=40
     ·have h40:((w.kept.length:Int)<=40)=True:=eq_true (by omega)
      push_cast -dsimp [hkl,h]
      refine cl (hf) ?_;push_cast -dsimp [decide_eq_true a]
      refine cl (hq) ?_;push_cast -dsimp
      refine cl (hp) ?_;push_cast -dsimp [decide_eq_true b,hkl,h40]
      exact ⟨[],rfl,rfl,by push_cast -dsimp [zb,za,CLe,zd,a,b,c,Bool.false_and]⟩
     ·have h40:((w.kept.length:Int)<=40)=False:=eq_false (by omega)
      push_cast -dsimp [hkl,h]
      refine cl (hf) ?_;push_cast -dsimp [decide_eq_true a]
      refine cl (hq) ?_;push_cast -dsimp
      refine cl (hp) ?_;push_cast -dsimp [decide_eq_true b,hkl,h40]
      exact ⟨[],rfl,rfl,by push_cast -dsimp [zb,za,CLe,zd,a,b,c,Bool.false_and]⟩
    ·push_cast -dsimp [hkl,h]
     refine cl (hf) ?_;push_cast -dsimp [decide_eq_true a]
     refine cl (hq) ?_;push_cast -dsimp
     refine cl (hp) ?_;push_cast -dsimp [decide_eq_false b]
     exact ⟨[],rfl,rfl,by push_cast -dsimp [zb,za,CLe,zd,a,b,Bool.false_and]⟩
   ·push_cast -dsimp [hkl,h]
    refine cl (hf) ?_;push_cast -dsimp [decide_eq_false a]
    exact ⟨[],rfl,rfl,by push_cast -dsimp [zb,za,CLe,zd,a,Bool.false_and]⟩
structure zp7 (w:qv):Prop where
 fs:FsS w.fs
 kept:w.kept.length<=10000
 pool:FsS ⟨0,0,0,w.pool⟩
theorem yh (w:qv) (hw:zp7 w):Fun Tryz.prog G0 20 [jv w] (qD (decide (Xb w))) 0:=by
 have hfl:=hw.fs.len
 have hkk:=hw.kept
 have hpp:w.pool.length<=10000:=hw.pool.len
 have hkl:(zE w.kept).length=w.kept.length:=List.length_map ..
 have hpl:(zp w.pool).length=w.pool.length:=List.length_map ..
 have hch:=zcC w.fs hw.fs
 have hq:=Q3 (G:=G0) w
 have hri:=VD (G:=G0) ⟨0,0,0,w.pool⟩ (by simp only;omega)
 by_cases c1:J1 w.fs=0
 case neg =>
  have hn:¬Xb w:=fun h=>c1 h.1
  refine Fun.of (fun i=>if i=14 then kl 8 9 else []) Tryz.func20 rfl (zi rfl) (by kernel_rfl) ?_;dsimp only[Tryz.f20]
  push_cast -dsimp
  refine cl (hch) ?_;push_cast -dsimp [c1]
  exact ⟨[],rfl,rfl,by push_cast -dsimp [zb,za,CLe,zd,hn]⟩
 by_cases c2:qc w.pool
 case neg =>
  have hn:¬Xb w:=fun h=>c2 h.2.1
  rw[decide_eq_false c2]at hri
  refine Fun.of (fun i=>if i=14 then kl 8 9 else []) Tryz.func20 rfl (zi rfl) (by kernel_rfl) ?_;dsimp only[Tryz.f20]
  push_cast -dsimp
  refine cl (hch) ?_;push_cast -dsimp [c1]
  refine cl (hq) ?_;push_cast -dsimp
  refine cl (hri) ?_;push_cast -dsimp
  exact ⟨[],rfl,rfl,by push_cast -dsimp [zb,za,CLe,zd,hn]⟩
 rw[decide_eq_true c2]at hri
 refine Fun.of (fun i=>if i=14 then kl 8 9 else []) Tryz.func20 rfl (zi rfl) (by kernel_rfl) ?_;dsimp only[Tryz.f20]
 push_cast -dsimp
 refine cl (hch) ?_;push_cast -dsimp [c1]
 refine cl (hq) ?_;push_cast -dsimp
 refine cl (hri) ?_;push_cast -dsimp
 refine loop (fun i:Nat=>⟨[(1,.ptr 0 0),(3,.sc (.int .i64 i))],[kg w],0,0⟩) (fun i=>i<=w.pool.length/\∀ x∈w.pool.take i,qI w x) (fun i=>w.pool.length-i) 0 ⟨Nat.zero_le _,fun x hx=>by simp at hx⟩ ?_ ?_
 ·exact zH.mk [] rfl rfl (Nat.zero_le _) rfl (by push_cast -dsimp [zb,za,CLe,zd]) (by push_cast -dsimp [zb,za,CLe,zd])
 rintro i ⟨h1,h2⟩
 by_cases h:i<w.pool.length
 ·have g:=qS w.pool i h
  have hn:=hw.pool.node _ (List.getElem_mem h)
  have hpo:=uH w w.pool[i] (by omega) (by omega) (by omega) (by omega)
  by_cases c3:qI w w.pool[i]
  ·rw[decide_eq_true c3]at hpo
   push_cast -dsimp [hpl,h,g]
   (try simp only[lS]);repeat refine And.intro (by omega) ?_
   refine cl (hpo) ?_;push_cast -dsimp
   (try simp only[lS]);repeat refine And.intro (by omega) ?_
   exact ⟨i+1,⟨h,qj h h2 c3⟩,by omega,zH.mk [] rfl rfl (Nat.zero_le _) rfl (by push_cast -dsimp [zb,za,CLe,zd]) (by push_cast -dsimp [zb,za,CLe,zd])⟩
  ·rw[decide_eq_false c3]at hpo
   have hn:¬Xb w:=fun q=>c3 (q.2.2.1 _ (List.getElem_mem h))
   push_cast -dsimp [hpl,h,g]
   (try simp only[lS]);repeat refine And.intro (by omega) ?_
   refine cl (hpo) ?_;push_cast -dsimp
   exact ⟨[],rfl,rfl,by push_cast -dsimp [zb,za,CLe,zd,hn]⟩
 rw[List.take_of_length_le (by omega)]at h2
 have hs0:XL []:=⟨List.Pairwise.nil,fun k hk=>by cases hk⟩
 have hl0:jQ []=0:=rfl
 push_cast -dsimp [hpl,h]
 clear hri hq hch
 refine loop (fun i:Nat=>⟨[(1,.ptr 0 0),(4,.sc (.int .i64 (jQ (w.kept.take i)))),(5,.sc (.int .i64 i))],[kg w],0,0⟩) (fun i=>i<=w.kept.length/\XL (w.kept.take i)/\∀ k∈w.kept.take i,Xy w k) (fun i=>w.kept.length-i) 0 ⟨Nat.zero_le _,by rw[List.take_zero];exact hs0,fun x hx=>by simp at hx⟩ ?_ ?_
 ·exact zH.mk [] rfl rfl (Nat.zero_le _) rfl (by push_cast -dsimp [zb,za,CLe,zd,List.take_zero,hl0]) (by push_cast -dsimp [zb,za,CLe,zd])
 rintro i ⟨i1,i2,i3⟩
 by_cases hi:i<w.kept.length
 case neg =>
  rw[List.take_of_length_le (by omega)]at i2 i3
  have hn:Xb w:=⟨c1,c2,h2,i2,i3⟩
  push_cast -dsimp [hkl,hi]
  exact ⟨[],rfl,rfl,by push_cast -dsimp [zb,za,CLe,zd,hn]⟩
 have g:=jj w.kept i hi
 have hlt:=Um hi
 have hst:w.kept.take (i+1)=w.kept.take i++[w.kept[i]]:=by rw[List.take_add_one,List.getElem?_eq_getElem hi];rfl
 have hbad1:¬jQ (w.kept.take i)<w.kept[i].slot->¬Xb w:=fun hn q=>hn (VY.1 (by
  rw[←hst]
  exact ⟨q.2.2.2.1.1.sublist (List.take_sublist _ _),fun k hk=>q.2.2.2.1.2 k (List.mem_of_mem_take hk)⟩)).2
 have hbad2:¬Xy w w.kept[i]->¬Xb w:=fun hn q=>hn (q.2.2.2.2 _ (List.getElem_mem hi))
 have hgood:jQ (w.kept.take i)<w.kept[i].slot->XL (w.kept.take (i+1)):=fun q=>by rw[hst];exact VY.2 ⟨i2,q⟩
 have hgood2:Xy w w.kept[i]->∀ k∈w.kept.take (i+1),Xy w k:=fun q=>qj hi i3 q
 have hg1:=qC (G:=G0) w.fs w.kept[i].ino (by omega)
 have hq:=Q3 (G:=G0) w
 have hg2:=qC (G:=G0) ⟨0,0,0,w.pool⟩ w.kept[i].ino (by simp only;omega)
 simp only at hg2
 generalize w.kept[i]=k at g hlt hbad1 hbad2 hgood hgood2 hg1 hg2
 generalize jQ (w.kept.take i)=la at hbad1 hgood
 clear hst i2 i3
 by_cases d1:k.slot<=la
 ·have hn:=hbad1 (by omega)
  push_cast -dsimp [hkl,hi,g]
  (try simp only[lS]);repeat refine And.intro (by omega) ?_
  refine cl (hg1) ?_;push_cast -dsimp
  refine cl (hq) ?_;push_cast -dsimp
  refine cl (hg2) ?_;push_cast -dsimp [d1]
  exact ⟨[],rfl,rfl,by push_cast -dsimp [zb,za,CLe,zd,hn]⟩
 have hgd:=hgood (by omega)
 by_cases d2:1073741824<k.slot
 ·have hn:=hbad2 fun q=>by have:=q.1;omega
  push_cast -dsimp [hkl,hi,g]
  (try simp only[lS]);repeat refine And.intro (by omega) ?_
  refine cl (hg1) ?_;push_cast -dsimp
  refine cl (hq) ?_;push_cast -dsimp
  refine cl (hg2) ?_;push_cast -dsimp [d1,d2]
  exact ⟨[],rfl,rfl,by push_cast -dsimp [zb,za,CLe,zd,hn]⟩
 cases e2:zF k.ino w.pool with
 | true =>
  rw[e2]at hg2
  by_cases d4:k.content=true
  ·by_cases d5:(zg k.ino w.pool).kind=1
   ·have hok:Xy w k:=⟨by omega,.inr e2,fun _=>by rw[if_pos e2];exact d5,fun q=>by rw[d4]at q;cases q⟩
    cases e1:zF k.ino w.fs.xs <;>
    ·rw[e1]at hg1
     push_cast -dsimp [hkl,hi,g]
     (try simp only[lS]);repeat refine And.intro (by omega) ?_
     refine cl (hg1) ?_;push_cast -dsimp
     refine cl (hq) ?_;push_cast -dsimp
     refine cl (hg2) ?_;push_cast -dsimp [d1,d2,d4,d5]
     (try simp only[lS]);repeat refine And.intro (by omega) ?_
     exact ⟨i+1,⟨hi,hgd,hgood2 hok⟩,by omega,zH.mk [] rfl rfl (Nat.zero_le _) rfl (by push_cast -dsimp [zb,za,CLe,zd,hlt]) (by push_cast -dsimp [zb,za,CLe,zd])⟩
   ·have hn:=hbad2 fun q=>d5 (by have:=q.2.2.1 d4;rwa [if_pos e2]at this)
    cases e1:zF k.ino w.fs.xs <;>
    ·rw[e1]at hg1
     push_cast -dsimp [hkl,hi,g]
     (try simp only[lS]);repeat refine And.intro (by omega) ?_
     refine cl (hg1) ?_;push_cast -dsimp
     refine cl (hq) ?_;push_cast -dsimp
     refine cl (hg2) ?_;push_cast -dsimp [d1,d2,d4,d5]
     exact ⟨[],rfl,rfl,by push_cast -dsimp [zb,za,CLe,zd,hn]⟩
  ·have d4:=Bool.eq_false_iff.2 d4
   by_cases d6:k.data = []
   ·have hok:Xy w k:=⟨by omega,.inr e2,fun q=>(by rw[d4]at q;cases q),fun _=>d6⟩
    cases e1:zF k.ino w.fs.xs <;>
    ·rw[e1]at hg1
     push_cast -dsimp [hkl,hi,g]
     (try simp only[lS]);repeat refine And.intro (by omega) ?_
     refine cl (hg1) ?_;push_cast -dsimp
     refine cl (hq) ?_;push_cast -dsimp
     refine cl (hg2) ?_;push_cast -dsimp [d1,d2,d4,d6]
     (try simp only[lS]);repeat refine And.intro (by omega) ?_
     exact ⟨i+1,⟨hi,hgd,hgood2 hok⟩,by omega,zH.mk [] rfl rfl (Nat.zero_le _) rfl (by push_cast -dsimp [zb,za,CLe,zd,hlt]) (by push_cast -dsimp [zb,za,CLe,zd])⟩
   ·have hn:=hbad2 fun q=>d6 (q.2.2.2 d4)
    cases e1:zF k.ino w.fs.xs <;>
    ·rw[e1]at hg1
     push_cast -dsimp [hkl,hi,g]
     (try simp only[lS]);repeat refine And.intro (by omega) ?_
     refine cl (hg1) ?_;push_cast -dsimp
     refine cl (hq) ?_;push_cast -dsimp
     refine cl (hg2) ?_;push_cast -dsimp [d1,d2,d4,d6]
     exact ⟨[],rfl,rfl,by push_cast -dsimp [zb,za,CLe,zd,hn]⟩
 | false =>
  rw[e2]at hg2
  cases e1:zF k.ino w.fs.xs with
  | false =>
   rw[e1]at hg1
   have hn:=hbad2 fun q=>by
    rcases q.2.1 with q | q
    ·rw[e1]at q;cases q
    ·rw[e2]at q;cases q
   push_cast -dsimp [hkl,hi,g]
   (try simp only[lS]);repeat refine And.intro (by omega) ?_
   refine cl (hg1) ?_;push_cast -dsimp
   refine cl (hq) ?_;push_cast -dsimp
   refine cl (hg2) ?_;push_cast -dsimp [d1,d2]
   exact ⟨[],rfl,rfl,by push_cast -dsimp [zb,za,CLe,zd,hn]⟩
  | true =>
   rw[e1]at hg1
   have e2':¬zF k.ino w.pool=true:=by rw[e2];decide
   by_cases d4:k.content=true
   ·by_cases d5:(zg k.ino w.fs.xs).kind=1
    ·have hok:Xy w k:=⟨by omega,.inl e1,fun _=>by rw[if_neg e2'];exact d5,fun q=>by rw[d4]at q;cases q⟩
     push_cast -dsimp [hkl,hi,g]
     (try simp only[lS]);repeat refine And.intro (by omega) ?_
     refine cl (hg1) ?_;push_cast -dsimp
     refine cl (hq) ?_;push_cast -dsimp
     refine cl (hg2) ?_;push_cast -dsimp [d1,d2,d4,d5]
     (try simp only[lS]);repeat refine And.intro (by omega) ?_
     exact ⟨i+1,⟨hi,hgd,hgood2 hok⟩,by omega,zH.mk [] rfl rfl (Nat.zero_le _) rfl (by push_cast -dsimp [zb,za,CLe,zd,hlt]) (by push_cast -dsimp [zb,za,CLe,zd])⟩
    ·have hn:=hbad2 fun q=>d5 (by have:=q.2.2.1 d4;rwa [if_neg e2']at this)
     push_cast -dsimp [hkl,hi,g]
     (try simp only[lS]);repeat refine And.intro (by omega) ?_
     refine cl (hg1) ?_;push_cast -dsimp
     refine cl (hq) ?_;push_cast -dsimp
     refine cl (hg2) ?_;push_cast -dsimp [d1,d2,d4,d5]
     exact ⟨[],rfl,rfl,by push_cast -dsimp [zb,za,CLe,zd,hn]⟩
   ·have d4:=Bool.eq_false_iff.2 d4
    by_cases d6:k.data = []
    ·have hok:Xy w k:=⟨by omega,.inl e1,fun q=>(by rw[d4]at q;cases q),fun _=>d6⟩
     push_cast -dsimp [hkl,hi,g]
     (try simp only[lS]);repeat refine And.intro (by omega) ?_
     refine cl (hg1) ?_;push_cast -dsimp
     refine cl (hq) ?_;push_cast -dsimp
     refine cl (hg2) ?_;push_cast -dsimp [d1,d2,d4,d6]
     (try simp only[lS]);repeat refine And.intro (by omega) ?_
     exact ⟨i+1,⟨hi,hgd,hgood2 hok⟩,by omega,zH.mk [] rfl rfl (Nat.zero_le _) rfl (by push_cast -dsimp [zb,za,CLe,zd,hlt]) (by push_cast -dsimp [zb,za,CLe,zd])⟩
    ·have hn:=hbad2 fun q=>d6 (q.2.2.2 d4)
     push_cast -dsimp [hkl,hi,g]
     (try simp only[lS]);repeat refine And.intro (by omega) ?_
     refine cl (hg1) ?_;push_cast -dsimp
     refine cl (hq) ?_;push_cast -dsimp
     refine cl (hg2) ?_;push_cast -dsimp [d1,d2,d4,d6]
     exact ⟨[],rfl,rfl,by push_cast -dsimp [zb,za,CLe,zd,hn]⟩
theorem zfJ.m {w:qv} (h:zfJ w):zp7 w:=⟨h.2.1.fs,by have:=h.2.2.2;omega,Vi.fs (f:=⟨0,0,0,w.pool⟩) h.2.2.1⟩
theorem zdd (w:qv):Fun Tryz.prog G0 31 [jv w] (qD (decide (okW w))) 0:=by
 by_cases c:zfJ w
 ·have h1:=Hi w
  have h2:=yh w c.m
  rw[decide_eq_true c]at h1
  have e:decide (okW w)=decide (Xb w):=by by_cases r:Xb w<;>simp[okW,c,r]
  refine Fun.of (fun _=>[]) Tryz.func31 rfl (zi rfl) (by kernel_rfl) ?_;dsimp only[Tryz.f31]
  push_cast -dsimp
  refine cl (h1) ?_;push_cast -dsimp
  refine cl (h2) ?_;push_cast -dsimp
  exact ⟨[],rfl,rfl,by push_cast -dsimp [zb,za,CLe,zd,e]⟩
 ·have h1:=Hi w
  rw[decide_eq_false c]at h1
  have e:¬okW w:=fun h=>c h.1
  refine Fun.of (fun _=>[]) Tryz.func31 rfl (zi rfl) (by kernel_rfl) ?_;dsimp only[Tryz.f31]
  push_cast -dsimp
  refine cl (h1) ?_;push_cast -dsimp
  exact ⟨[],rfl,rfl,by push_cast -dsimp [zb,za,CLe,zd,e]⟩
end
section
open Go.RowKit
section
variable {G:zm}
theorem zdn (n:Nat) (hn:n<=200000) (h0:0<n):JI Tryz.prog G 100 [.sc (.slice none 0 0),.sc (.int .i64 n)] [] 0 (fun r bx' m=>m=0/\∃ (c:Nat) (B:List C),n<=c/\c<=9223372036854775807/\B.length=c*5/\(B.all C.stayB)=true/\r = .bs 0 0 5 0 c/\bx' = [B]):=by
 have hp:((n:Int)<0)=False:=eq_false (by omega)
 have hq:((0:Int)<(n:Int))=True:=eq_true (by omega)
 refine JI.of (fun i=>if i=1000000+30 then [true,true] else []) Tryz.func100 rfl (zi rfl) (by kernel_rfl) ?_;dsimp only[Tryz.f100]
 push_cast -dsimp [hp,hq]
 refine ⟨⟨by omega,by omega⟩,zdq zhM zl4 zf9 rfl (by decide) rfl (by omega) (by omega) (by omega) (fun c h1 h2=>?_)⟩
 push_cast -dsimp
 have hm:(n:Int).toNat=n:=by omega
 rw[hm]at h1
 have h2:c<=9223372036854775807:=h2
 refine ⟨by omega,by omega,_,[(List.replicate n [C.sc (.int .i64 0),C.sc (.int .i64 0),C.str [],C.str [],C.str []]).flatten++List.replicate ((c-n)*5) C.any],0,⟨⟨rfl,c,_,h1,h2,?_,?_,rfl,rfl⟩,Nat.zero_le _⟩,[],rfl,rfl,?_,by push_cast -dsimp [zb,za,CLe,zd]⟩
 ·simp[hm];omega
 ·simp[List.all_append,List.all_replicate,C.stayB]
 ·push_cast -dsimp [zb,za,CLe,zd]
  exact zX (by simp[List.all_append,List.all_replicate,C.stayB])
theorem zcn (n:Nat) (hn:n<=200000) (h0:0<n):JI Tryz.prog G 101 [.sc (.slice none 0 0),.sc (.int .i64 n)] [] 0 (fun r bx' m=>m=0/\∃ (c:Nat) (B:List C),n<=c/\c<=9223372036854775807/\B.length=c*1/\(B.all C.stayB)=true/\r = .bs 0 0 1 0 c/\bx' = [B]):=by
 have hp:((n:Int)<0)=False:=eq_false (by omega)
 have hq:((0:Int)<(n:Int))=True:=eq_true (by omega)
 refine JI.of (fun i=>if i=1000000+33 then [true,true] else []) Tryz.func101 rfl (zi rfl) (by kernel_rfl) ?_;dsimp only[Tryz.f101]
 push_cast -dsimp [hp,hq]
 refine ⟨⟨by omega,by omega⟩,zdq zf0 zl4 zoG rfl (by decide) rfl (by omega) (by omega) (by omega) (fun c h1 h2=>?_)⟩
 push_cast -dsimp
 have hm:(n:Int).toNat=n:=by omega
 rw[hm]at h1
 have h2:c<=9223372036854775807:=h2
 refine ⟨by omega,by omega,_,[(List.replicate n [C.str []]).flatten++List.replicate ((c-n)*1) C.any],0,⟨⟨rfl,c,_,h1,h2,?_,?_,rfl,rfl⟩,Nat.zero_le _⟩,[],rfl,rfl,?_,by push_cast -dsimp [zb,za,CLe,zd]⟩
 ·simp[hm];omega
 ·simp[List.all_append,List.all_replicate,C.stayB]
 ·push_cast -dsimp [zb,za,CLe,zd]
  exact zX (by simp[List.all_append,List.all_replicate,C.stayB])
end
end
section
open Go.RowKit
def szN (a b:Nat):Nat->Nat
 | 0=>0
 | 1=>a
 | _=>a+b
def zom {α:Type} (a b:List α):Nat->List α
 | 0=>[]
 | 1=>a
 | _=>a++b
structure HH (k c:Nat) (a b:List (List C)) (j:Nat) (X:List C):Prop where
 len:X.length=c*k
 stay:(X.all C.stayB)=true
 cells:X.take (szN a.length b.length j*k)=(zom a b j).flatten
theorem HH.step {k c:Nat} {a b r:List (List C)} {j:Nat} {X:List C} (h:HH k c a b j X) (hr:zom a b (j+1)=zom a b j++r) (hn:szN a.length b.length (j+1)=szN a.length b.length j+r.length) (hk:∀ x∈r,x.length=k) (hs:jq r) (hc:szN a.length b.length (j+1)<=c) :
  HH k c a b (j+1) (spl X (szN a.length b.length j*k) r.flatten):=by
 have hf:=qm hk
 obtain ⟨h1,h2,h3⟩:=h
 have hle:(szN a.length b.length j+r.length)*k<=c*k:=Nat.mul_le_mul_right k (by omega)
 rw[Nat.add_mul]at hle
 refine ⟨by rw[Qb (by omega)];exact h1,?_,?_⟩
 ·unfold spl
  rw[List.all_append,List.all_append,Bool.and_eq_true,Bool.and_eq_true]
  rw[List.all_eq_true]at h2
  exact ⟨⟨List.all_eq_true.2 fun x hx=>h2 x (List.mem_of_mem_take hx),XP hs⟩,List.all_eq_true.2 fun x hx=>h2 x (List.mem_of_mem_drop hx)⟩
 ·unfold spl
  rw[hn,Nat.add_mul,hr,List.flatten_append,←h3,List.append_assoc,List.take_append]
  have e1:(X.take (szN a.length b.length j*k)).length=szN a.length b.length j*k:=by rw[List.length_take];omega
  rw[e1,List.take_of_length_le (by omega),Nat.add_sub_cancel_left,List.take_append,←hf,List.take_of_length_le (Nat.le_refl _)]
  simp
section
variable {G:zm}
theorem xN (a b:List (List C)) (ka:∀ r∈a,r.length=5) (kb:∀ r∈b,r.length=5) (sa:jq a) (sb:jq b) (la:a.length<=90000) (lb:b.length<=90000) (h0:0<b.length) :
  Fun Tryz.prog G 58 [.sl 1 [[.sl 5 a],[.sl 5 b]]] (.own 0 63 5 (a++b)) 1:=by
 refine Fun.ofF (fun i=>if i=1000000+30 then [true,true] else []) Tryz.func58 rfl (zi rfl) (by kernel_rfl) ?_;dsimp only[Tryz.f58]
 push_cast -dsimp
 refine loop (fun j:Nat=>⟨[(0,.sl 1 [[.sl 5 a],[.sl 5 b]]),(2,.sc (.slice none 0 0)),(3,.sc (.int .i64 (szN a.length b.length j:Nat))),(9,.sl 1 [[.sl 5 a],[.sl 5 b]]),(10,.sc (.int .i64 2)),(11,.sc (.int .i64 j))],[],0,0⟩) (fun j=>j<=2) (fun j=>2-j) 0 (by decide) ?_ ?_
 ·exact zH.mk [] rfl rfl (Nat.zero_le _) rfl (by push_cast -dsimp [zb,za,CLe,zd,szN]) (by push_cast -dsimp [zb,za,CLe,zd])
 intro j hj
 obtain rfl | rfl | rfl:j=0∨j=1∨j=2:=by omega
 ·have hn:(((a.length:Int))<0)=False:=eq_false (by omega)
  push_cast -dsimp [szN,hn]
  exact ⟨⟨by omega,by omega⟩,1,by decide,by decide,zH.mk [] rfl rfl (Nat.zero_le _) rfl (by push_cast -dsimp [zb,za,CLe,zd,szN]) (by push_cast -dsimp [zb,za,CLe,zd])⟩
 ·have hn:(((a.length:Int)+(b.length:Int))<0)=False:=eq_false (by omega)
  push_cast -dsimp [szN,hn]
  exact ⟨⟨by omega,by omega⟩,2,by decide,by decide,zH.mk [] rfl rfl (Nat.zero_le _) rfl (by push_cast -dsimp [zb,za,CLe,zd,szN]) (by push_cast -dsimp [zb,za,CLe,zd])⟩
 ·push_cast -dsimp [szN]
  refine Jx [] [] (zdn (G:=G) (a.length+b.length) (by omega) (by omega)) rfl (by decide) (by decide) (by simp) (by push_cast -dsimp) (by push_cast -dsimp) (fun r bx' m hp=>?_)
  obtain ⟨rfl,c,B,h1,h2,h3,h4,rfl,rfl⟩:=hp
  have hre:∀ fp fo,C.reL fp fo B=B:=fun fp fo=>zD h4
  push_cast -dsimp [hre]
  refine loop (fun p:Nat×List C=>⟨[(0,.sl 1 [[.sl 5 a],[.sl 5 b]]),(6,.bs 0 0 5 (szN a.length b.length p.1) c),(25,.sl 1 [[.sl 5 a],[.sl 5 b]]),(26,.sc (.int .i64 2)),(27,.sc (.int .i64 p.1))],[p.2],0,0⟩) (fun p=>p.1<=2/\HH 5 c a b p.1 p.2) (fun p=>2-p.1) (0,B) ⟨Nat.zero_le _,h3,h4,by simp[szN,zom]⟩ ?_ ?_
  ·exact zH.mk [] rfl rfl (Nat.zero_le _) rfl (by push_cast -dsimp [zb,za,CLe,zd,szN]) (by (push_cast -dsimp [zb,za,CLe,zd];exact zX h4))
  rintro ⟨j,X⟩ ⟨hj,hX⟩
  have hj:j<=2:=hj
  obtain rfl | rfl | rfl:j=0∨j=1∨j=2:=by omega
  ·have hs:=hX.step (r:=a) rfl (by simp[szN]) ka sa (by simp[szN];omega)
   push_cast -dsimp [szN]
   refine Qy zhM zf9 rfl rfl (by decide) rfl (qm ka) rfl (by rw[hX.len];omega) (Nat.zero_le _) (by omega) (by omega) (fun hc=>?_) (fun hc=>absurd hc (by omega))
   push_cast -dsimp
   have hs:HH 5 c a b 1 (spl X 0 a.flatten):=by simpa [szN] using hs
   exact ⟨(1,spl X 0 a.flatten),⟨Nat.le_succ 1,hs⟩,by (simp only;omega),zH.mk [] rfl rfl (Nat.zero_le _) rfl (by push_cast -dsimp [zb,za,CLe,zd,szN]) (by (push_cast -dsimp [zb,za,CLe,zd];exact zX hs.stay))⟩
  ·have hs:=hX.step (r:=b) rfl (by simp[szN]) kb sb (by simp[szN];omega)
   push_cast -dsimp [szN]
   refine Qy zhM zf9 rfl rfl (by decide) rfl (qm kb) rfl (by rw[hX.len];omega) (by omega) (by omega) (by omega) (fun hc=>?_) (fun hc=>absurd hc (by omega))
   push_cast -dsimp
   have hs:HH 5 c a b 2 (spl X (a.length*5) b.flatten):=by simpa [szN] using hs
   exact ⟨(2,spl X (a.length*5) b.flatten),⟨Nat.le_refl 2,hs⟩,by (simp only;omega),zH.mk [] rfl rfl (Nat.zero_le _) rfl (by push_cast -dsimp [zb,za,CLe,zd,szN]) (by (push_cast -dsimp [zb,za,CLe,zd];exact zX hs.stay))⟩
  ·push_cast -dsimp [szN]
   refine ⟨[(0,63,5,a++b,c)],[.inl 0],GN rfl (by omega) (by rw[List.length_append];omega) h2 hX.len (fun r hr=>(List.mem_append.1 hr).elim (ka r) (kb r)) hX.stay (by rw[List.length_append];exact hX.cells),rfl,rfl,by push_cast -dsimp [zb,za,CLe,zd,List.length_append]⟩
theorem xO (a b:List (List C)) (ka:∀ r∈a,r.length=1) (kb:∀ r∈b,r.length=1) (sa:jq a) (sb:jq b) (la:a.length<=90000) (lb:b.length<=90000) (h0:0<b.length) :
  Fun Tryz.prog G 59 [.sl 1 [[.sl 1 a],[.sl 1 b]]] (.own 0 9 1 (a++b)) 1:=by
 refine Fun.ofF (fun i=>if i=1000000+33 then [true,true] else []) Tryz.func59 rfl (zi rfl) (by kernel_rfl) ?_;dsimp only[Tryz.f59]
 push_cast -dsimp
 refine loop (fun j:Nat=>⟨[(0,.sl 1 [[.sl 1 a],[.sl 1 b]]),(2,.sc (.slice none 0 0)),(3,.sc (.int .i64 (szN a.length b.length j:Nat))),(9,.sl 1 [[.sl 1 a],[.sl 1 b]]),(10,.sc (.int .i64 2)),(11,.sc (.int .i64 j))],[],0,0⟩) (fun j=>j<=2) (fun j=>2-j) 0 (by decide) ?_ ?_
 ·exact zH.mk [] rfl rfl (Nat.zero_le _) rfl (by push_cast -dsimp [zb,za,CLe,zd,szN]) (by push_cast -dsimp [zb,za,CLe,zd])
 intro j hj
 obtain rfl | rfl | rfl:j=0∨j=1∨j=2:=by omega
 ·have hn:(((a.length:Int))<0)=False:=eq_false (by omega)
  push_cast -dsimp [szN,hn]
  exact ⟨⟨by omega,by omega⟩,1,by decide,by decide,zH.mk [] rfl rfl (Nat.zero_le _) rfl (by push_cast -dsimp [zb,za,CLe,zd,szN]) (by push_cast -dsimp [zb,za,CLe,zd])⟩
 ·have hn:(((a.length:Int)+(b.length:Int))<0)=False:=eq_false (by omega)
  push_cast -dsimp [szN,hn]
  exact ⟨⟨by omega,by omega⟩,2,by decide,by decide,zH.mk [] rfl rfl (Nat.zero_le _) rfl (by push_cast -dsimp [zb,za,CLe,zd,szN]) (by push_cast -dsimp [zb,za,CLe,zd])⟩
 ·push_cast -dsimp [szN]
  refine Jx [] [] (zcn (G:=G) (a.length+b.length) (by omega) (by omega)) rfl (by decide) (by decide) (by simp) (by push_cast -dsimp) (by push_cast -dsimp) (fun r bx' m hp=>?_)
  obtain ⟨rfl,c,B,h1,h2,h3,h4,rfl,rfl⟩:=hp
  have hre:∀ fp fo,C.reL fp fo B=B:=fun fp fo=>zD h4
  push_cast -dsimp [hre]
  refine loop (fun p:Nat×List C=>⟨[(0,.sl 1 [[.sl 1 a],[.sl 1 b]]),(6,.bs 0 0 1 (szN a.length b.length p.1) c),(25,.sl 1 [[.sl 1 a],[.sl 1 b]]),(26,.sc (.int .i64 2)),(27,.sc (.int .i64 p.1))],[p.2],0,0⟩) (fun p=>p.1<=2/\HH 1 c a b p.1 p.2) (fun p=>2-p.1) (0,B) ⟨Nat.zero_le _,h3,h4,by simp[szN,zom]⟩ ?_ ?_
  ·exact zH.mk [] rfl rfl (Nat.zero_le _) rfl (by push_cast -dsimp [zb,za,CLe,zd,szN]) (by (push_cast -dsimp [zb,za,CLe,zd];exact zX h4))
  rintro ⟨j,X⟩ ⟨hj,hX⟩
  have hj:j<=2:=hj
  obtain rfl | rfl | rfl:j=0∨j=1∨j=2:=by omega
  ·have hs:=hX.step (r:=a) rfl (by simp[szN]) ka sa (by simp[szN];omega)
   push_cast -dsimp [szN]
   refine Qy zf0 zoG rfl rfl (by decide) rfl (qm ka) rfl (by rw[hX.len];omega) (Nat.zero_le _) (by omega) (by omega) (fun hc=>?_) (fun hc=>absurd hc (by omega))
   push_cast -dsimp
   have hs:HH 1 c a b 1 (spl X 0 a.flatten):=by simpa [szN] using hs
   exact ⟨(1,spl X 0 a.flatten),⟨Nat.le_succ 1,hs⟩,by (simp only;omega),zH.mk [] rfl rfl (Nat.zero_le _) rfl (by push_cast -dsimp [zb,za,CLe,zd,szN]) (by (push_cast -dsimp [zb,za,CLe,zd];exact zX hs.stay))⟩
  ·have hs:=hX.step (r:=b) rfl (by simp[szN]) kb sb (by simp[szN];omega)
   push_cast -dsimp [szN]
   refine Qy zf0 zoG rfl rfl (by decide) rfl (qm kb) rfl (by rw[hX.len];omega) (by omega) (by omega) (by omega) (fun hc=>?_) (fun hc=>absurd hc (by omega))
   push_cast -dsimp
   have hs:HH 1 c a b 2 (spl X (a.length) b.flatten):=by simpa [szN] using hs
   exact ⟨(2,spl X (a.length) b.flatten),⟨Nat.le_refl 2,hs⟩,by (simp only;omega),zH.mk [] rfl rfl (Nat.zero_le _) rfl (by push_cast -dsimp [zb,za,CLe,zd,szN]) (by (push_cast -dsimp [zb,za,CLe,zd];exact zX hs.stay))⟩
  ·push_cast -dsimp [szN]
   refine ⟨[(0,9,1,a++b,c)],[.inl 0],GN rfl (by omega) (by rw[List.length_append];omega) h2 hX.len (fun r hr=>(List.mem_append.1 hr).elim (ka r) (kb r)) hX.stay (by rw[List.length_append];exact hX.cells),rfl,rfl,by push_cast -dsimp [zb,za,CLe,zd,List.length_append]⟩
end
end
end Go.Proofs.YtiblepfehggicaaGreatDoor.Vcg
section
namespace Go.Proofs.YtiblepfehggicaaGreatDoor.Kit
open Go.RowKit
theorem He {a b:ByteArray} (h:a=b):Ending.returned (.string a) = .returned (.string b):=by rw[h]
def toL (s:ByteArray):List UInt8:=s.data.toList
def ofL (l:List UInt8):ByteArray:=⟨l.toArray⟩
@[simp] theorem zcK (l:List UInt8):toL (ofL l)=l:=by simp[toL,ofL]
@[simp] theorem zoX (s:ByteArray):ofL (toL s)=s:=by cases s;simp[toL,ofL]
theorem kw (a b:List UInt8):ofL a++ofL b=ofL (a++b):=ByteArray.mk_append_mk a b
theorem HO (s:ByteArray):(toL s).length=s.size:=Array.length_toList
theorem Q8 (l:List UInt8):(ofL l).size=l.length:=by rw[←HO,zcK]
def join (sep:ByteArray) (xs:List ByteArray):ByteArray:=⟨(Lib.join (xs.map (·.data.toList)) sep.data.toList).toArray⟩
theorem join_one (sep x:ByteArray):join sep [x]=x:=by
 cases x;simp[join,Lib.join_one]
def zlc (w:World) (v:Value) (xs:List ByteArray):Prop:=
 ∃ a cap,v = .slice a xs.length cap/\xs.length<=cap/\(cap:Int)<=9223372036854775807 /\
  (xs = []∨∃ b o,a=some ⟨b,o,none⟩/\b<w.heap.size/\∀ j,j<xs.length->w.cell? ⟨b,o+j,none⟩=some (.string (xs.getD j ⟨#[]⟩)))
theorem zlc.below {w w':World} {v:Value} {xs:List ByteArray} {B:Nat} (h:zlc w v xs) (hb:Below B w w') (hB:w.heap.size<=B):zlc w' v xs:=by
 obtain ⟨a,cap,e,h1,h2,h3⟩:=h
 refine ⟨a,cap,e,h1,h2,?_⟩
 rcases h3 with h3 | ⟨b,o,e1,e2,e3⟩
 ·exact .inl h3
 ·exact .inr ⟨b,o,e1,Nat.lt_of_lt_of_le e2 hb.size,fun j hj=>by rw[hb.cell (p:=⟨b,o+j,none⟩) (Nat.lt_of_lt_of_le e2 hB)];exact e3 j hj⟩
theorem zlc.new (w:World) (xs:List ByteArray) (cs:Array Value) (T:TypeId) (n:Nat) (hcs:cs=(xs.map Value.string).toArray) (hn:n=xs.length) (hm:n<=9223372036854775807) (fr:Nat×Nat) :
  zlc (w.alloc (.cells cs T fr)) (.slice (some ⟨w.heap.size,0,none⟩) n n) xs:=by
 subst hcs hn
 refine ⟨_,_,rfl,Nat.le_refl _,by omega,?_⟩
 refine .inr ⟨_,_,rfl,by rw[World.size_alloc];omega,fun j hj=>?_⟩
 have h1:(w.alloc (.cells (xs.map Value.string).toArray T fr)).heap[w.heap.size]?=some (.cells (xs.map Value.string).toArray T fr):=by
  show (w.heap.push _)[w.heap.size]?=_
  rw[Array.getElem?_push,if_pos rfl]
 simp only[World.cell?,h1]
 show ((xs.map Value.string).toArray)[0+j]?=_
 rw[Nat.zero_add,List.getElem?_toArray,List.getElem?_map,List.getElem?_eq_getElem hj,List.getD_eq_getElem?_getD,List.getElem?_eq_getElem hj];rfl
theorem zlc.nil (w:World) (a:Option Addr) (cap:Nat) (hm:cap<=9223372036854775807):zlc w (.slice a 0 cap) []:=⟨a,cap,rfl,Nat.zero_le _,by omega,.inl rfl⟩
end Go.Proofs.YtiblepfehggicaaGreatDoor.Kit
end
section
namespace Go.Proofs.YtiblepfehggicaaGreatDoor.Kit
open Go.RowKit
def byteCells (l:List UInt8):Array Value:=(l.map fun c=>Value.int .u8 (c.toNat:Int)).toArray
theorem zes (w:World) (l:List UInt8) (T:TypeId) (fr:Nat×Nat) (n:Nat) (hn:n=w.heap.size):Lib.Bytes (w.alloc (.cells (byteCells l) T fr)) n 0 (ofL l):=by
 intro i h
 subst hn
 have h1:(w.alloc (.cells (byteCells l) T fr)).heap[w.heap.size]?=some (.cells (byteCells l) T fr):=by
  show (w.heap.push _)[w.heap.size]?=_
  rw[Array.getElem?_push,if_pos rfl]
 simp only[World.cell?,h1]
 show (byteCells l)[0+i]?=_
 have h2:i<l.length:=by rw[Q8]at h;exact h
 rw[Nat.zero_add,byteCells,List.getElem?_toArray,List.getElem?_map,List.getElem?_eq_getElem h2]
 rfl
theorem H8 {P:Program} (w:World) (l:List UInt8) (src e dst:TypeId) (hs:P.underlying src=some (.slice e)) (he:P.underlying e=some (.int .u8)) (hd:P.underlying dst=some .string) (cs:Array Value) (hcs:cs=byteCells l) (fr:Nat×Nat) (m cap n:Nat) (hm:m=w.heap.size) (hn:n=l.length) :
  (convert src dst (.slice (some ⟨m,0,none⟩) n cap)).run P (w.alloc (.cells cs e fr)) = .ok (.string (ofL l)) (w.alloc (.cells cs e fr)):=by
 subst hcs hm hn
 have:=Lib.run_convert_whole (P:=P) (w.alloc (.cells (byteCells l) e fr)) src e dst hs he hd w.heap.size 0 (ofL l) (zes w l e fr _ rfl) cap
 rw[Q8]at this
 exact this
end Go.Proofs.YtiblepfehggicaaGreatDoor.Kit
end
section
namespace Go.Proofs.YtiblepfehggicaaGreatDoor
open Go.RowKit
namespace QuoteWalk
open Kit QuotePlain
theorem G3 {c:UInt8} (h:good c=false):¬(32:Int)<=(c.toNat:Int)∨((32:Int)<=(c.toNat:Int)/\¬(c.toNat:Int)<=126)∨((32:Int)<=(c.toNat:Int)/\(c.toNat:Int)<=126/\((c.toNat:Int) != 34)=false) ∨
  ((32:Int)<=(c.toNat:Int)/\(c.toNat:Int)<=126/\((c.toNat:Int) != 34)=true/\((c.toNat:Int) != 92)=false):=by
 simp only[good,decide_eq_false_iff_not]at h
 simp only[bne_iff_ne,ne_eq,bne_eq_false_iff_eq]
 omega
theorem kI {c:UInt8} (h:good c=true):(32:Int)<=(c.toNat:Int)/\(c.toNat:Int)<=126/\((c.toNat:Int) != 34)=true/\((c.toNat:Int) != 92)=true:=by
 simp only[good,decide_eq_true_eq]at h
 refine ⟨by omega,by omega,?_,?_⟩<;>(simp only[bne_iff_ne,ne_eq];omega)
theorem xl (c:UInt8) (w:World) :
  Calls Tryz.prog 192 #[.int .u8 c.toNat] w fun e w'=>e = .returned (.bool (good c))/\w=w':=by
 have hc:=c.toNat_lt
 cases hg:good c with
 | true =>
  obtain ⟨g1,g2,g3,g4⟩:=kI hg
  clear hg
  go_enter Tryz.func192,Tryz.ntmps192
  go_wp2
  go_ret
  exact ⟨rfl,rfl⟩
 | false =>
  rcases G3 hg with h | ⟨h0,h⟩ | ⟨h0,h1,h2⟩ | ⟨h0,h1,h2,h3⟩
  all_goals clear hg
  ·go_enter Tryz.func192,Tryz.ntmps192
   go_wp2
   go_ret
   exact ⟨rfl,rfl⟩
  ·go_enter Tryz.func192,Tryz.ntmps192
   go_wp2
   go_ret
   exact ⟨rfl,rfl⟩
  ·go_enter Tryz.func192,Tryz.ntmps192
   go_wp2
   go_ret
   exact ⟨rfl,rfl⟩
  ·go_enter Tryz.func192,Tryz.ntmps192
   go_wp2
   go_ret
   exact ⟨rfl,rfl⟩
theorem NM (c:UInt8) (w:World) (hg:good c=true) :
  Calls Tryz.prog 156 #[.int .u8 c.toNat] w fun e w'=>e = .returned (.string (ofL (qb c)))/\Below w.heap.size w w':=by
 have hc:=c.toNat_lt
 have hq:=Lib.hid (show qb c = [c] by rw[qb,if_pos hg])
 obtain ⟨g1,g2,g3,g4⟩:=kI hg
 have hcv:=H8 (P:=Tryz.prog) w [c] 157 5 9 Tryz.underlying157 Tryz.underlying5 Tryz.underlying9 #[.int .u8 c.toNat] rfl (0,0) w.heap.size 1 1 rfl rfl
 clear hg
 go_enter Tryz.func156,Tryz.ntmps156
 go_wp2
 go_ret
 exact ⟨by rw[hq.out];rfl,(Below.refl _ _).alloc (Nat.le_refl _) _⟩
theorem zp2 (n:Nat) (h:n<16) (w:World):(Instr.index 9 (.string ⟨#[48,49,50,51,52,53,54,55,56,57,97,98,99,100,101,102]⟩) (.int .u8 (n:Int))).run Tryz.prog w = .ok (.int .u8 ((HQ n).toNat:Int)) w:=by
 rcases (by omega:n=0∨n=1∨n=2∨n=3∨n=4∨n=5∨n=6∨n=7∨n=8∨n=9∨n=10∨n=11∨n=12∨n=13∨n=14∨n=15) with rfl | rfl | rfl | rfl | rfl | rfl | rfl | rfl | rfl | rfl | rfl | rfl | rfl | rfl | rfl | rfl
 all_goals kernel_rfl
theorem zjg (c:UInt8) (w:World):(Instr.index 9 (.string ⟨#[48,49,50,51,52,53,54,55,56,57,97,98,99,100,101,102]⟩) (.int .u8 ((c.toNat:Int) / 16))).run Tryz.prog w = .ok (.int .u8 ((HQ (c.toNat / 16)).toNat:Int)) w:=
 zp2 (c.toNat / 16) (by have:=c.toNat_lt;omega) w
theorem ziY (c:UInt8) (w:World):(Instr.index 9 (.string ⟨#[48,49,50,51,52,53,54,55,56,57,97,98,99,100,101,102]⟩) (.int .u8 ((c.toNat:Int) % 16))).run Tryz.prog w = .ok (.int .u8 ((HQ (c.toNat % 16)).toNat:Int)) w:=
 zp2 (c.toNat % 16) (by omega) w
theorem zln (c:UInt8):IntKind.u8.wrap ((c.toNat:Int) / 16)=(c.toNat:Int) / 16:=by
 have:=c.toNat_lt
 exact IntWalk.u8_in _ (by omega)
theorem zld (c:UInt8):IntKind.u8.wrap ((c.toNat:Int) % 16)=(c.toNat:Int) % 16:=by
 have:=c.toNat_lt
 exact IntWalk.u8_in _ (by omega)
theorem zlC (c:UInt8):(c.toNat:Int).tmod 16=(c.toNat:Int) % 16:=Int.tmod_eq_emod_of_nonneg (by omega)
theorem x9 (c:UInt8) (w:World) (hg:good c=false) :
  Calls Tryz.prog 156 #[.int .u8 c.toNat] w fun e w'=>e = .returned (.string (ofL (qb c)))/\Below w.heap.size w w':=by
 have hc:=c.toNat_lt
 have hq:=Lib.hid (show qb c = [92,120,HQ (c.toNat / 16),HQ (c.toNat % 16)] by rw[qb,hg];rfl)
 have hb:=G3 hg
 have x1:=zjg c
 have x2:=ziY c
 have y1:=zln c
 have y2:=zld c
 have y3:=zlC c
 have hcv:=fun w2:World=>H8 (P:=Tryz.prog) w2 [92,120,HQ (c.toNat / 16),HQ (c.toNat % 16)] 157 5 9 Tryz.underlying157 Tryz.underlying5 Tryz.underlying9 #[.int .u8 92,.int .u8 120,.int .u8 (HQ (c.toNat / 16)).toNat,.int .u8 (HQ (c.toNat % 16)).toNat] rfl (0,0) w2.heap.size 4 4 rfl rfl
 clear hg
 rcases hb with h | ⟨h0,h⟩ | ⟨h0,h1,h2⟩ | ⟨h0,h1,h2,h3⟩
 ·go_enter Tryz.func156,Tryz.ntmps156
  go_wp2
  go_still_tail 6,(by kernel_rfl)
  change wpList _ _ _ _ _ w.drew
  obtain ⟨w2,hw2,hsz⟩:∃ w2:World,Below w.heap.size w w2/\w2=w.drew:=⟨_,(Below.refl _ _).drew,rfl⟩
  rw[←hsz]
  clear hsz
  go_wp2
  go_ret
  exact ⟨by rw[hq.out];rfl,hw2.alloc hw2.size _⟩
 ·go_enter Tryz.func156,Tryz.ntmps156
  go_wp2
  go_still_tail 6,(by kernel_rfl)
  change wpList _ _ _ _ _ w.drew
  obtain ⟨w2,hw2,hsz⟩:∃ w2:World,Below w.heap.size w w2/\w2=w.drew:=⟨_,(Below.refl _ _).drew,rfl⟩
  rw[←hsz]
  clear hsz
  go_wp2
  go_ret
  exact ⟨by rw[hq.out];rfl,hw2.alloc hw2.size _⟩
 ·go_enter Tryz.func156,Tryz.ntmps156
  go_wp2
  go_still_tail 6,(by kernel_rfl)
  change wpList _ _ _ _ _ w.drew
  obtain ⟨w2,hw2,hsz⟩:∃ w2:World,Below w.heap.size w w2/\w2=w.drew:=⟨_,(Below.refl _ _).drew,rfl⟩
  rw[←hsz]
  clear hsz
  go_wp2
  go_ret
  exact ⟨by rw[hq.out];rfl,hw2.alloc hw2.size _⟩
 ·go_enter Tryz.func156,Tryz.ntmps156
  go_wp2
  go_still_tail 6,(by kernel_rfl)
  change wpList _ _ _ _ _ w.drew
  obtain ⟨w2,hw2,hsz⟩:∃ w2:World,Below w.heap.size w w2/\w2=w.drew:=⟨_,(Below.refl _ _).drew,rfl⟩
  rw[←hsz]
  clear hsz
  go_wp2
  go_ret
  exact ⟨by rw[hq.out];rfl,hw2.alloc hw2.size _⟩
theorem N6 (c:UInt8) (w:World) :
  Calls Tryz.prog 156 #[.int .u8 c.toNat] w fun e w'=>e = .returned (.string (ofL (qb c)))/\Below w.heap.size w w':=by
 cases h:good c with
 | true=>exact NM c w h
 | false=>exact x9 c w h
end QuoteWalk
end Go.Proofs.YtiblepfehggicaaGreatDoor
end
section
namespace Go.Proofs
open Go.Shelf
def Tryz.zlays166_ren:Go.Shelf.Ren:=⟨fun | 166=>118 | 240=>159 | 276=>194 | n=>n,fun | 0=>0 | 3=>3 | 4=>4 | 9=>9 | 20=>20 | 37=>157 | 70=>156 | 72=>159 | 75=>162 | 164=>233 | 80=>165 | 5=>5 | n=>n,fun | n=>n⟩
theorem Tryz.zlays166:Go.Proofs.Lays.n166 Tryz.prog Tryz.zlays166_ren:={
 mixed:=by kernel_rfl
 f166:=Tryz.func118.trans (congrArg some (by kernel_rfl))
 f240:=Tryz.func159.trans (congrArg some (by kernel_rfl))
 f276:=Tryz.func194.trans (congrArg some (by kernel_rfl))
 t0:=Tryz.underlying0
 a0:=Tryz.isAgg0
 z0:=Tryz.sizeOf0
 v0:=Tryz.zeroValue0
 t3:=Tryz.underlying3
 a3:=Tryz.isAgg3
 z3:=Tryz.sizeOf3
 v3:=Tryz.zeroValue3
 t4:=Tryz.underlying4
 a4:=Tryz.isAgg4
 z4:=Tryz.sizeOf4
 v4:=Tryz.zeroValue4
 t9:=Tryz.underlying9
 a9:=Tryz.isAgg9
 z9:=Tryz.sizeOf9
 v9:=Tryz.zeroValue9
 t20:=Tryz.underlying20
 a20:=Tryz.isAgg20
 z20:=Tryz.sizeOf20
 v20:=Tryz.zeroValue20
 t37:=Tryz.underlying157
 a37:=Tryz.isAgg157
 z37:=Tryz.sizeOf157
 v37:=Tryz.zeroValue157
 t70:=Tryz.underlying156
 a70:=Tryz.isAgg156
 z70:=Tryz.sizeOf156
 v70:=Tryz.zeroValue156
 t72:=Tryz.underlying159
 a72:=Tryz.isAgg159
 z72:=Tryz.sizeOf159
 v72:=Tryz.zeroValue159
 t75:=Tryz.underlying162
 a75:=Tryz.isAgg162
 z75:=Tryz.sizeOf162
 v75:=Tryz.zeroValue162
 t164:=Tryz.underlying233
 a164:=Tryz.isAgg233
 z164:=Tryz.sizeOf233
 v164:=Tryz.zeroValue233 }
theorem Tryz.zBuilder_Extra_166:Builder.Extra Tryz.prog Tryz.zlays166_ren:={
 sizeBuilder:=by kernel_rfl
 liesBuilder:=by kernel_rfl
 t5:=Tryz.underlying5
 a5:=Tryz.isAgg5
 z5:=Tryz.sizeOf5
 v5:=Tryz.zeroValue5
 infoByte:=by kernel_rfl
 cellsByte:=by kernel_rfl
 sizeByte:=by kernel_rfl
 neB5:=by decide }
def Tryz.zlays167_ren:Go.Shelf.Ren:=⟨fun | 167=>191 | 240=>159 | 276=>194 | n=>n,fun | 0=>0 | 4=>4 | 5=>5 | 9=>9 | 20=>20 | 37=>157 | 70=>156 | 72=>159 | 75=>162 | 164=>233 | 80=>165 | n=>n,fun | n=>n⟩
theorem Tryz.zlays167:Go.Proofs.Lays.n167 Tryz.prog Tryz.zlays167_ren:={
 mixed:=by kernel_rfl
 f167:=Tryz.func191.trans (congrArg some (by kernel_rfl))
 f240:=Tryz.func159.trans (congrArg some (by kernel_rfl))
 f276:=Tryz.func194.trans (congrArg some (by kernel_rfl))
 t0:=Tryz.underlying0
 a0:=Tryz.isAgg0
 z0:=Tryz.sizeOf0
 v0:=Tryz.zeroValue0
 t4:=Tryz.underlying4
 a4:=Tryz.isAgg4
 z4:=Tryz.sizeOf4
 v4:=Tryz.zeroValue4
 t5:=Tryz.underlying5
 a5:=Tryz.isAgg5
 z5:=Tryz.sizeOf5
 v5:=Tryz.zeroValue5
 t9:=Tryz.underlying9
 a9:=Tryz.isAgg9
 z9:=Tryz.sizeOf9
 v9:=Tryz.zeroValue9
 t20:=Tryz.underlying20
 a20:=Tryz.isAgg20
 z20:=Tryz.sizeOf20
 v20:=Tryz.zeroValue20
 t37:=Tryz.underlying157
 a37:=Tryz.isAgg157
 z37:=Tryz.sizeOf157
 v37:=Tryz.zeroValue157
 t70:=Tryz.underlying156
 a70:=Tryz.isAgg156
 z70:=Tryz.sizeOf156
 v70:=Tryz.zeroValue156
 t72:=Tryz.underlying159
 a72:=Tryz.isAgg159
 z72:=Tryz.sizeOf159
 v72:=Tryz.zeroValue159
 t75:=Tryz.underlying162
 a75:=Tryz.isAgg162
 z75:=Tryz.sizeOf162
 v75:=Tryz.zeroValue162
 t164:=Tryz.underlying233
 a164:=Tryz.isAgg233
 z164:=Tryz.sizeOf233
 v164:=Tryz.zeroValue233 }
theorem Tryz.zBuilder_Extra_167:Builder.Extra Tryz.prog Tryz.zlays167_ren:={
 sizeBuilder:=by kernel_rfl
 liesBuilder:=by kernel_rfl
 t5:=Tryz.underlying5
 a5:=Tryz.isAgg5
 z5:=Tryz.sizeOf5
 v5:=Tryz.zeroValue5
 infoByte:=by kernel_rfl
 cellsByte:=by kernel_rfl
 sizeByte:=by kernel_rfl
 neB5:=by decide }
open Go.RowKit in
theorem Tryz.zBuilder_WriteByte (B b:Nat) (bs:List Value) (c:Int) (w:World) (h:Lib.IsBuilder 159 5 B b bs w) (hlen:bs.length+1<=140737488355328) (hBw:B<=w.heap.size) :
  Calls Tryz.prog 191 #[.pointer (some ⟨b,0,none⟩),.int .u8 c] w fun e w'=>e = .returned .nilIface/\(Lib.BuilderAt 159 5 B b (.pointer (some ⟨b,0,none⟩)) (bs++[.int .u8 c]) w'/\Below B w w'):=Any.Builder_WriteByte Tryz.zlays167 Tryz.zBuilder_Extra_167 B b bs c w h hlen hBw
open Go.RowKit in
theorem Tryz.zBuilder_WriteString (B b:Nat) (bs:List Value) (s:ByteArray) (w:World) (h:Lib.IsBuilder 159 5 B b bs w) (hlen:bs.length+s.size<=140737488355328) (hBw:B<=w.heap.size) :
  Calls Tryz.prog 118 #[.pointer (some ⟨b,0,none⟩),.string s] w fun e w'=>e = .returned (.tuple #[.int .i64 s.size,.nilIface])/\(Lib.BuilderAt 159 5 B b (.pointer (some ⟨b,0,none⟩)) (bs++Lib.strCells s) w'/\Below B w w'):=Any.Builder_WriteString Tryz.zlays166 Tryz.zBuilder_Extra_166 B b bs s w h hlen hBw
end Go.Proofs
end
section
namespace Go.Proofs.YtiblepfehggicaaGreatDoor
open Go.RowKit
namespace QuoteWalk
open Kit QuotePlain
def pre (s:ByteArray) (k:Nat):Bs:=34 :: mid ((toL s).take k)
theorem un (s:ByteArray):pre s 0 = [34]:=by simp[pre,mid]
theorem vI (s:ByteArray) (k:Nat) (h:k<s.size) {c:UInt8} (hc:s[k]=c):pre s (k+1)=pre s k++qb c:=by
 have h':k<(toL s).length:=by rw[HO];exact h
 have:(toL s)[k]=c:=hc
 rw[pre,pre,List.take_succ_eq_append_getElem h',this,mid,mid,List.flatMap_append]
 simp
theorem zdZ (s:ByteArray) (k:Nat) (h:s.size<=k):pre s k++[34]=qB (toL s):=by
 rw[pre,List.take_of_length_le (by rw[HO];exact h)];rfl
theorem zi0 (c:UInt8):(qb c).length<=4:=by unfold qb;split<;>simp
theorem mid_len (l:Bs):(mid l).length<=4*l.length:=by
 induction l with
 | nil=>simp[mid]
 | cons c l ih =>
  have:=zi0 c
  simp only[mid,List.flatMap_cons,List.length_append,List.length_cons]at ih ⊢
  omega
theorem zel (s:ByteArray) (k:Nat):(pre s k).length<=1+4*k:=by
 have h1:=mid_len ((toL s).take k)
 have h2:((toL s).take k).length<=k:=List.length_take_le _ _
 simp only[pre,List.length_cons];omega
theorem refQuote_walk (s:ByteArray) (w:World) (hs:s.size<=1099511627776) :
  Calls Tryz.prog 110 #[.string s] w fun e w'=>e = .returned (.string (ofL (qB (toL s))))/\Below w.heap.size w w':=by
 go_enter Tryz.func110,Tryz.ntmps110
 go_wp2
 go_loopw [3,4] (fun o i wr=>∃ k:Nat,k<=s.size/\i = .int .i64 k/\o = .string (ofL (pre s k))/\Below w.heap.size w wr) (fun _ i _=>s.size-(intOf i).toNat)
 case atStart=>exact ⟨0,by omega,rfl,by rw[un];rfl,Below.refl _ _⟩
 case round =>
  obtain ⟨k,hk,rfl,rfl,hB⟩:=hrel
  have hpl:=zel s k
  have hps:(ofL (pre s k)).size<=1+4*k:=by rw[Q8];exact hpl
  by_cases hlt:k<s.size
  ·obtain ⟨c,hc⟩:∃ c,s[k]=c:=⟨_,rfl⟩
   have hsn:=Lib.hid (vI s k hlt hc)
   have hql:=zi0 c
   have hqs:(ofL (qb c)).size<=4:=by rw[Q8];exact hql
   generalize hp:ofL (pre s k)=p at *
   have hp':=Lib.hid hp
   clear hp
   go_wp2_with fail
   refine (N6 c _).mono ?_
   rintro e w1 ⟨rfl,hb1⟩
   generalize hq:ofL (qb c)=q at *
   have hq':=Lib.hid hq
   clear hq
   go_wp2
   go_roundw
   case rel=>exact ⟨k+1,by omega,by go_num,by rw[hsn.out,←kw,hp'.out,hq'.out],hB.trans (hb1.mono hB.size)⟩
   case measure=>simp[intOf];omega
  ·have hfin:=Lib.hid (zdZ s k (by omega))
   generalize hp:ofL (pre s k)=p at *
   have hp':=Lib.hid hp
   clear hp
   go_wp2
   go_ret
   exact ⟨He (by rw[←hp'.out,←hfin.out,←kw];rfl),hB⟩
def Bld (B:Nat) (l:Bs) (w:World):Prop:=Lib.BuilderAt 159 5 B B (.pointer (some ⟨B,0,none⟩)) (Lib.byteCells l) w
theorem Bld.alloc {B:Nat} {l:Bs} {w:World} (h:Bld B l w) (o:Obj):Bld B l (w.alloc o):=by
 obtain ⟨h1,v,h2,h3,h4⟩:=h
 refine ⟨h1,v,?_,h3.alloc o,h4⟩
 rw[Lib.alloc_old _ _ _ (Array.getElem?_eq_some_iff.1 h2).1];exact h2
theorem Bld.drew {B:Nat} {l:Bs} {w:World} (h:Bld B l w):Bld B l w.drew:=h
theorem Nu (B:Nat) (l:Bs) (c:UInt8) (w:World) (h:Bld B l w) (hl:l.length<140737488355328) (hB:B<=w.heap.size) :
  Calls Tryz.prog 191 #[.pointer (some ⟨B,0,none⟩),.int .u8 (c.toNat:Int)] w fun e w'=>e = .returned .nilIface/\Bld B (l++[c]) w'/\Below B w w':=by
 refine (Tryz.zBuilder_WriteByte B B (Lib.byteCells l) c.toNat w (.inr h) (by rw[Lib.byteCells_length];omega) hB).mono ?_
 rintro e w' ⟨h1,h2,h3⟩
 exact ⟨h1,by rw[Bld,Lib.byteCells_append];exact h2,h3⟩
theorem uL (w:World) (c:UInt8) :
  Calls Tryz.prog 191 #[.pointer (some ⟨w.heap.size,0,none⟩),.int .u8 (c.toNat:Int)] (w.alloc (.cells #[.pointer none,.slice none 0 0] 159 (0,0))) fun e w'=>e = .returned .nilIface/\Bld w.heap.size [c] w'/\Below w.heap.size w w':=by
 refine (Tryz.zBuilder_WriteByte w.heap.size w.heap.size [] c.toNat _ (Lib.fresh_isBuilder _ _ w) (by decide) (by simp)).mono ?_
 rintro e w' ⟨h1,h2,h3⟩
 exact ⟨h1,h2,((Below.refl _ _).alloc (Nat.le_refl _) _).trans h3⟩
theorem xP (B:Nat) (l:Bs) (x:ByteArray) (w:World) (h:Bld B l w) (hl:l.length+x.size<=140737488355328) (hB:B<=w.heap.size) :
  Calls Tryz.prog 118 #[.pointer (some ⟨B,0,none⟩),.string x] w fun e w'=>e = .returned (.tuple #[.int .i64 x.size,.nilIface])/\Bld B (l++toL x) w'/\Below B w w':=by
 refine (Tryz.zBuilder_WriteString B B (Lib.byteCells l) x w (.inr h) (by rw[Lib.byteCells_length];omega) hB).mono ?_
 rintro e w' ⟨h1,h2,h3⟩
 exact ⟨h1,by rw[Bld,Lib.byteCells_append];exact h2,h3⟩
theorem zb6 (B:Nat) (l:Bs) (w:World) (h:Bld B l w) (hB:B<=w.heap.size) :
  Calls Tryz.prog 119 #[.pointer (some ⟨B,0,none⟩)] w fun e w'=>e = .returned (.string (ofL l))/\Below B w w':=
 Tryz.Builder_String_any B B l w (.inr h) hB
theorem znR (c:UInt8):bits BinOp.and IntKind.u8 (c.toNat:Int) 15=(c.toNat:Int) % 16:=by
 have:=zc0 (p:=fun c=>decide (bits BinOp.and IntKind.u8 (c.toNat:Int) 15=(c.toNat:Int) % 16)) (by decide +kernel) c
 exact of_decide_eq_true this
theorem quote_walk (s:ByteArray) (w:World) (hs:s.size<=1099511627776) :
  Calls Tryz.prog 154 #[.string s] w fun e w'=>e = .returned (.string (ofL (qB (toL s))))/\Below w.heap.size w w':=by
 go_enter Tryz.func154,Tryz.ntmps154
 go_wp2_with fail
 refine (uL w 34).mono ?_
 rintro e w1 ⟨rfl,hI1,hB1⟩
 go_wp2_with fail
 go_loopw [9] (fun i wr=>∃ k:Nat,k<=s.size/\i = .int .i64 k/\Bld w.heap.size (pre s k) wr/\Below w.heap.size w wr) (fun i _=>s.size-(intOf i).toNat)
 case atStart=>exact ⟨0,by omega,rfl,by rw[un];exact hI1,hB1⟩
 case round =>
  obtain ⟨k,hk,rfl,hI,hB⟩:=hrel
  clear hI1 hB1
  have hpl:=zel s k
  by_cases hlt:k<s.size
  ·obtain ⟨c,hc⟩:∃ c,s[k]=c:=⟨_,rfl⟩
   have hsn:=Lib.hid (vI s k hlt hc)
   go_wp2_with fail
   refine (xl c _).mono ?_
   rintro e w' ⟨rfl,rfl⟩
   cases hg:good c with
   | true =>
    have hq:=Lib.hid (show qb c = [c] by rw[qb,if_pos hg])
    clear hg
    go_wp2_with fail
    refine (Nu w.heap.size (pre s k) c _ hI (by omega) hB.size).mono ?_
    rintro e w2 ⟨rfl,hI2,hb2⟩
    go_wp2
    go_roundw
    case rel=>exact ⟨k+1,by omega,by go_num,by rw[hsn.out,hq.out];exact hI2,hB.trans hb2⟩
    case measure=>simp[intOf];omega
   | false =>
    have hq:=Lib.hid (show qb c = [92,120,HQ (c.toNat / 16),HQ (c.toNat % 16)] by rw[qb,hg];rfl)
    clear hg
    have x1:=zjg c
    have x2:=ziY c
    have x3:=znR c
    have hcv:=fun w2:World=>H8 (P:=Tryz.prog) w2 [92,120,HQ (c.toNat / 16),HQ (c.toNat % 16)] 157 5 9 Tryz.underlying157 Tryz.underlying5 Tryz.underlying9 #[.int .u8 92,.int .u8 120,.int .u8 (HQ (c.toNat / 16)).toNat,.int .u8 (HQ (c.toNat % 16)).toNat] rfl (0,0) w2.heap.size 4 4 rfl rfl
    go_wp2_with fail
    go_still_tail 6,(by kernel_rfl)
    change wpList _ _ _ _ _ wr.drew
    obtain ⟨w2,hw2,hI2,hsz⟩:∃ w2:World,Below w.heap.size w w2/\Bld w.heap.size (pre s k) w2/\w2=wr.drew:=⟨_,hB.drew,hI.drew,rfl⟩
    rw[←hsz]
    clear hsz hI hB
    go_wp2_with fail
    refine (xP w.heap.size (pre s k) (ofL [92,120,HQ (c.toNat / 16),HQ (c.toNat % 16)]) _ (hI2.alloc _) (by rw[Q8];show _+4<=_;omega) (by have:=hw2.size;simp;omega)).mono ?_
    rintro e w3 ⟨rfl,hI3,hb3⟩
    rw[zcK]at hI3
    have hB3:=(hw2.alloc hw2.size _).trans hb3
    clear hb3 hcv x1 x2 x3 hI2
    go_wp2
    go_roundw
    case rel=>exact ⟨k+1,by omega,by go_num,by rw[hsn.out,hq.out];exact hI3,hB3⟩
    case measure=>simp[intOf];omega
  ·have hfin:=Lib.hid (zdZ s k (by omega))
   go_wp2_with fail
   refine (Nu w.heap.size (pre s k) 34 _ hI (by omega) hB.size).mono ?_
   rintro e w2 ⟨rfl,hI2,hb2⟩
   go_wp2_with fail
   refine (zb6 w.heap.size _ _ hI2 (hB.trans hb2).size).mono ?_
   rintro e w3 ⟨rfl,hb3⟩
   go_wp2
   go_ret
   exact ⟨He (by rw[hfin.out]),(hB.trans hb2).trans hb3⟩
end QuoteWalk
end Go.Proofs.YtiblepfehggicaaGreatDoor
end
namespace Go.Proofs.YtiblepfehggicaaGreatDoor.Vcg
section
open Go.RowKit
def phr:List (List UInt8):=[[],[99,97,110,110,111,116,32,99,114,101,97,116,101,32,100,105,114,101,99,116,111,114,121,32,65,58,32,69],[99,97,110,110,111,116,32,114,101,109,111,118,101,32,65,58,32,69],[114,101,102,117,115,105,110,103,32,116,111,32,114,101,109,111,118,101,32,34,46,34,32,111,114,32,34,46,46,34,32,100,105,114,101,99,116,111,114,121,58,32,115,107,105,112,112,105,110,103,32,65],[105,116,32,105,115,32,100,97,110,103,101,114,111,117,115,32,116,111,32,111,112,101,114,97,116,101,32,114,101,99,117,114,115,105,118,101,108,121,32,111,110,32,65],[102,97,105,108,101,100,32,116,111,32,97,99,99,101,115,115,32,65,58,32,69],[65,58,32,104,97,114,100,32,108,105,110,107,32,110,111,116,32,97,108,108,111,119,101,100,32,102,111,114,32,100,105,114,101,99,116,111,114,121],[102,97,105,108,101,100,32,116,111,32,99,114,101,97,116,101,32,104,97,114,100,32,108,105,110,107,32,66,58,32,69],[102,97,105,108,101,100,32,116,111,32,99,114,101,97,116,101,32,115,121,109,98,111,108,105,99,32,108,105,110,107,32,66,58,32,69],[65,32,97,110,100,32,66,32,97,114,101,32,116,104,101,32,115,97,109,101,32,102,105,108,101],[116,97,114,103,101,116,32,65,32,105,115,32,110,111,116,32,97,32,100,105,114,101,99,116,111,114,121],[99,97,110,110,111,116,32,115,116,97,116,32,65,58,32,69],[99,97,110,110,111,116,32,111,118,101,114,119,114,105,116,101,32,110,111,110,45,100,105,114,101,99,116,111,114,121,32,66,32,119,105,116,104,32,100,105,114,101,99,116,111,114,121,32,65],[99,97,110,110,111,116,32,111,118,101,114,119,114,105,116,101,32,100,105,114,101,99,116,111,114,121,32,66,32,119,105,116,104,32,110,111,110,45,100,105,114,101,99,116,111,114,121,32,65],[99,97,110,110,111,116,32,109,111,118,101,32,65,32,116,111,32,97,32,115,117,98,100,105,114,101,99,116,111,114,121,32,111,102,32,105,116,115,101,108,102,44,32,66],[99,97,110,110,111,116,32,109,111,118,101,32,65,32,116,111,32,66,58,32,69],[45,114,32,110,111,116,32,115,112,101,99,105,102,105,101,100,59,32,111,109,105,116,116,105,110,103,32,100,105,114,101,99,116,111,114,121,32,65],[99,97,110,110,111,116,32,99,114,101,97,116,101,32,114,101,103,117,108,97,114,32,102,105,108,101,32,66,58,32,69],[99,97,110,110,111,116,32,99,114,101,97,116,101,32,115,121,109,98,111,108,105,99,32,108,105,110,107,32,66,58,32,69],[99,97,110,110,111,116,32,99,111,112,121,32,97,32,100,105,114,101,99,116,111,114,121,44,32,65,44,32,105,110,116,111,32,105,116,115,101,108,102,44,32,66],[110,111,116,32,119,114,105,116,105,110,103,32,116,104,114,111,117,103,104,32,100,97,110,103,108,105,110,103,32,115,121,109,108,105,110,107,32,66],[101,114,114,111,114,32,119,114,105,116,105,110,103,32,66,58,32,69],[99,97,110,110,111,116,32,99,114,101,97,116,101,32,100,105,114,101,99,116,111,114,121,32,66,58,32,69]]
def zp9:List (List UInt8):=[[83,117,99,99,101,115,115],[78,111,32,115,117,99,104,32,102,105,108,101,32,111,114,32,100,105,114,101,99,116,111,114,121],[70,105,108,101,32,101,120,105,115,116,115],[78,111,116,32,97,32,100,105,114,101,99,116,111,114,121],[73,115,32,97,32,100,105,114,101,99,116,111,114,121],[68,105,114,101,99,116,111,114,121,32,110,111,116,32,101,109,112,116,121],[84,111,111,32,109,97,110,121,32,108,101,118,101,108,115,32,111,102,32,115,121,109,98,111,108,105,99,32,108,105,110,107,115],[70,105,108,101,32,110,97,109,101,32,116,111,111,32,108,111,110,103],[78,111,32,115,112,97,99,101,32,108,101,102,116,32,111,110,32,100,101,118,105,99,101],[73,110,118,97,108,105,100,32,97,114,103,117,109,101,110,116],[68,101,118,105,99,101,32,111,114,32,114,101,115,111,117,114,99,101,32,98,117,115,121],[79,112,101,114,97,116,105,111,110,32,110,111,116,32,112,101,114,109,105,116,116,101,100],[77,97,108,102,111,114,109,101,100,32,116,101,120,116],[78,111,116,32,105,110,32,116,104,101,32,115,116,97,115,104]]
def zod:List Value:=[.string ⟨#[]⟩,.string ⟨#[]⟩,.int .i64 0,.string ⟨#[109,107,100,105,114]⟩,.string ⟨#[112]⟩,.int .i64 1,.string ⟨#[114,109]⟩,.string ⟨#[82,100,102,114]⟩,.int .i64 1,.string ⟨#[108,110]⟩,.string ⟨#[84,102,110,115]⟩,.int .i64 1,.string ⟨#[109,118]⟩,.string ⟨#[84,102,110]⟩,.int .i64 2,.string ⟨#[99,112]⟩,.string ⟨#[80,82,84,102,110,114]⟩,.int .i64 2]
def G2:zm:=fun g=>if g=2 then some (phr.map C.str) else if g=1 then some (zod.map zA) else if g=3 then some (zp9.map C.str) else none
theorem zl8:G2 2=some [.str [],.str [99,97,110,110,111,116,32,99,114,101,97,116,101,32,100,105,114,101,99,116,111,114,121,32,65,58,32,69],.str [99,97,110,110,111,116,32,114,101,109,111,118,101,32,65,58,32,69],.str [114,101,102,117,115,105,110,103,32,116,111,32,114,101,109,111,118,101,32,34,46,34,32,111,114,32,34,46,46,34,32,100,105,114,101,99,116,111,114,121,58,32,115,107,105,112,112,105,110,103,32,65],.str [105,116,32,105,115,32,100,97,110,103,101,114,111,117,115,32,116,111,32,111,112,101,114,97,116,101,32,114,101,99,117,114,115,105,118,101,108,121,32,111,110,32,65],.str [102,97,105,108,101,100,32,116,111,32,97,99,99,101,115,115,32,65,58,32,69],.str [65,58,32,104,97,114,100,32,108,105,110,107,32,110,111,116,32,97,108,108,111,119,101,100,32,102,111,114,32,100,105,114,101,99,116,111,114,121],.str [102,97,105,108,101,100,32,116,111,32,99,114,101,97,116,101,32,104,97,114,100,32,108,105,110,107,32,66,58,32,69],.str [102,97,105,108,101,100,32,116,111,32,99,114,101,97,116,101,32,115,121,109,98,111,108,105,99,32,108,105,110,107,32,66,58,32,69],.str [65,32,97,110,100,32,66,32,97,114,101,32,116,104,101,32,115,97,109,101,32,102,105,108,101],.str [116,97,114,103,101,116,32,65,32,105,115,32,110,111,116,32,97,32,100,105,114,101,99,116,111,114,121],.str [99,97,110,110,111,116,32,115,116,97,116,32,65,58,32,69],.str [99,97,110,110,111,116,32,111,118,101,114,119,114,105,116,101,32,110,111,110,45,100,105,114,101,99,116,111,114,121,32,66,32,119,105,116,104,32,100,105,114,101,99,116,111,114,121,32,65],.str [99,97,110,110,111,116,32,111,118,101,114,119,114,105,116,101,32,100,105,114,101,99,116,111,114,121,32,66,32,119,105,116,104,32,110,111,110,45,100,105,114,101,99,116,111,114,121,32,65],.str [99,97,110,110,111,116,32,109,111,118,101,32,65,32,116,111,32,97,32,115,117,98,100,105,114,101,99,116,111,114,121,32,111,102,32,105,116,115,101,108,102,44,32,66],.str [99,97,110,110,111,116,32,109,111,118,101,32,65,32,116,111,32,66,58,32,69],.str [45,114,32,110,111,116,32,115,112,101,99,105,102,105,101,100,59,32,111,109,105,116,116,105,110,103,32,100,105,114,101,99,116,111,114,121,32,65],.str [99,97,110,110,111,116,32,99,114,101,97,116,101,32,114,101,103,117,108,97,114,32,102,105,108,101,32,66,58,32,69],.str [99,97,110,110,111,116,32,99,114,101,97,116,101,32,115,121,109,98,111,108,105,99,32,108,105,110,107,32,66,58,32,69],.str [99,97,110,110,111,116,32,99,111,112,121,32,97,32,100,105,114,101,99,116,111,114,121,44,32,65,44,32,105,110,116,111,32,105,116,115,101,108,102,44,32,66],.str [110,111,116,32,119,114,105,116,105,110,103,32,116,104,114,111,117,103,104,32,100,97,110,103,108,105,110,103,32,115,121,109,108,105,110,107,32,66],.str [101,114,114,111,114,32,119,114,105,116,105,110,103,32,66,58,32,69],.str [99,97,110,110,111,116,32,99,114,101,97,116,101,32,100,105,114,101,99,116,111,114,121,32,66,58,32,69]]:=rfl
theorem ziF:G2 1=some [.str [],.str [],.sc (.int .i64 0),.str [109,107,100,105,114],.str [112],.sc (.int .i64 1),.str [114,109],.str [82,100,102,114],.sc (.int .i64 1),.str [108,110],.str [84,102,110,115],.sc (.int .i64 1),.str [109,118],.str [84,102,110],.sc (.int .i64 2),.str [99,112],.str [80,82,84,102,110,114],.sc (.int .i64 2)]:=rfl
theorem zkv:G2 3=some [.str [83,117,99,99,101,115,115],.str [78,111,32,115,117,99,104,32,102,105,108,101,32,111,114,32,100,105,114,101,99,116,111,114,121],.str [70,105,108,101,32,101,120,105,115,116,115],.str [78,111,116,32,97,32,100,105,114,101,99,116,111,114,121],.str [73,115,32,97,32,100,105,114,101,99,116,111,114,121],.str [68,105,114,101,99,116,111,114,121,32,110,111,116,32,101,109,112,116,121],.str [84,111,111,32,109,97,110,121,32,108,101,118,101,108,115,32,111,102,32,115,121,109,98,111,108,105,99,32,108,105,110,107,115],.str [70,105,108,101,32,110,97,109,101,32,116,111,111,32,108,111,110,103],.str [78,111,32,115,112,97,99,101,32,108,101,102,116,32,111,110,32,100,101,118,105,99,101],.str [73,110,118,97,108,105,100,32,97,114,103,117,109,101,110,116],.str [68,101,118,105,99,101,32,111,114,32,114,101,115,111,117,114,99,101,32,98,117,115,121],.str [79,112,101,114,97,116,105,111,110,32,110,111,116,32,112,101,114,109,105,116,116,101,100],.str [77,97,108,102,111,114,109,101,100,32,116,101,120,116],.str [78,111,116,32,105,110,32,116,104,101,32,115,116,97,115,104]]:=rfl
attribute [push_cast] zl8 ziF zkv
def X3 (k:Int):List UInt8:=if k=1 then [109,107,100,105,114] else if k=2 then [114,109] else if k=3 then [108,110] else if k=4 then [109,118] else if k=5 then [99,112] else []
def zQ (k:Int):List UInt8:=if k=1 then [99,97,110,110,111,116,32,99,114,101,97,116,101,32,100,105,114,101,99,116,111,114,121,32,65,58,32,69] else if k=2 then [99,97,110,110,111,116,32,114,101,109,111,118,101,32,65,58,32,69] else if k=3 then [114,101,102,117,115,105,110,103,32,116,111,32,114,101,109,111,118,101,32,34,46,34,32,111,114,32,34,46,46,34,32,100,105,114,101,99,116,111,114,121,58,32,115,107,105,112,112,105,110,103,32,65] else if k=4 then [105,116,32,105,115,32,100,97,110,103,101,114,111,117,115,32,116,111,32,111,112,101,114,97,116,101,32,114,101,99,117,114,115,105,118,101,108,121,32,111,110,32,65] else if k=5 then [102,97,105,108,101,100,32,116,111,32,97,99,99,101,115,115,32,65,58,32,69] else if k=6 then [65,58,32,104,97,114,100,32,108,105,110,107,32,110,111,116,32,97,108,108,111,119,101,100,32,102,111,114,32,100,105,114,101,99,116,111,114,121] else if k=7 then [102,97,105,108,101,100,32,116,111,32,99,114,101,97,116,101,32,104,97,114,100,32,108,105,110,107,32,66,58,32,69] else if k=8 then [102,97,105,108,101,100,32,116,111,32,99,114,101,97,116,101,32,115,121,109,98,111,108,105,99,32,108,105,110,107,32,66,58,32,69] else if k=9 then [65,32,97,110,100,32,66,32,97,114,101,32,116,104,101,32,115,97,109,101,32,102,105,108,101] else if k=10 then [116,97,114,103,101,116,32,65,32,105,115,32,110,111,116,32,97,32,100,105,114,101,99,116,111,114,121] else if k=11 then [99,97,110,110,111,116,32,115,116,97,116,32,65,58,32,69] else if k=12 then [99,97,110,110,111,116,32,111,118,101,114,119,114,105,116,101,32,110,111,110,45,100,105,114,101,99,116,111,114,121,32,66,32,119,105,116,104,32,100,105,114,101,99,116,111,114,121,32,65] else if k=13 then [99,97,110,110,111,116,32,111,118,101,114,119,114,105,116,101,32,100,105,114,101,99,116,111,114,121,32,66,32,119,105,116,104,32,110,111,110,45,100,105,114,101,99,116,111,114,121,32,65] else if k=14 then [99,97,110,110,111,116,32,109,111,118,101,32,65,32,116,111,32,97,32,115,117,98,100,105,114,101,99,116,111,114,121,32,111,102,32,105,116,115,101,108,102,44,32,66] else if k=15 then [99,97,110,110,111,116,32,109,111,118,101,32,65,32,116,111,32,66,58,32,69] else if k=16 then [45,114,32,110,111,116,32,115,112,101,99,105,102,105,101,100,59,32,111,109,105,116,116,105,110,103,32,100,105,114,101,99,116,111,114,121,32,65] else if k=17 then [99,97,110,110,111,116,32,99,114,101,97,116,101,32,114,101,103,117,108,97,114,32,102,105,108,101,32,66,58,32,69] else if k=18 then [99,97,110,110,111,116,32,99,114,101,97,116,101,32,115,121,109,98,111,108,105,99,32,108,105,110,107,32,66,58,32,69] else if k=19 then [99,97,110,110,111,116,32,99,111,112,121,32,97,32,100,105,114,101,99,116,111,114,121,44,32,65,44,32,105,110,116,111,32,105,116,115,101,108,102,44,32,66] else if k=20 then [110,111,116,32,119,114,105,116,105,110,103,32,116,104,114,111,117,103,104,32,100,97,110,103,108,105,110,103,32,115,121,109,108,105,110,107,32,66] else if k=21 then [101,114,114,111,114,32,119,114,105,116,105,110,103,32,66,58,32,69] else if k=22 then [99,97,110,110,111,116,32,99,114,101,97,116,101,32,100,105,114,101,99,116,111,114,121,32,66,58,32,69] else []
def Ub (k:Int):List UInt8:=if k=0 then [83,117,99,99,101,115,115] else if k=1 then [78,111,32,115,117,99,104,32,102,105,108,101,32,111,114,32,100,105,114,101,99,116,111,114,121] else if k=2 then [70,105,108,101,32,101,120,105,115,116,115] else if k=3 then [78,111,116,32,97,32,100,105,114,101,99,116,111,114,121] else if k=4 then [73,115,32,97,32,100,105,114,101,99,116,111,114,121] else if k=5 then [68,105,114,101,99,116,111,114,121,32,110,111,116,32,101,109,112,116,121] else if k=6 then [84,111,111,32,109,97,110,121,32,108,101,118,101,108,115,32,111,102,32,115,121,109,98,111,108,105,99,32,108,105,110,107,115] else if k=7 then [70,105,108,101,32,110,97,109,101,32,116,111,111,32,108,111,110,103] else if k=8 then [78,111,32,115,112,97,99,101,32,108,101,102,116,32,111,110,32,100,101,118,105,99,101] else if k=9 then [73,110,118,97,108,105,100,32,97,114,103,117,109,101,110,116] else if k=10 then [68,101,118,105,99,101,32,111,114,32,114,101,115,111,117,114,99,101,32,98,117,115,121] else if k=11 then [79,112,101,114,97,116,105,111,110,32,110,111,116,32,112,101,114,109,105,116,116,101,100] else if k=12 then [77,97,108,102,111,114,109,101,100,32,116,101,120,116] else if k=13 then [78,111,116,32,105,110,32,116,104,101,32,115,116,97,115,104] else [85,110,107,110,111,119,110,32,101,114,114,111,114]
theorem No (k:Int):Fun Tryz.prog G2 102 [.sc (.int .i64 k)] (.str (X3 k)) 0:=by
 by_cases h1:1<=k
 ·by_cases h2:k<=5
  ·have hc:k=1∨k=2∨k=3∨k=4∨k=5:=by omega
   clear h1 h2
   rcases hc with rfl | rfl | rfl | rfl | rfl
   all_goals
    refine Fun.of (fun _=>[]) Tryz.func102 rfl (zi rfl) (by kernel_rfl) ?_;dsimp only[Tryz.f102]
    push_cast -dsimp
    exact ⟨[],rfl,rfl,by simp only[X3];push_cast -dsimp [zb,za,CLe,zd]<;>rfl⟩
  ·have n1:¬k=1:=(by omega);have n2:¬k=2:=(by omega);have n3:¬k=3:=(by omega);have n4:¬k=4:=(by omega);have n5:¬k=5:=(by omega)
   have f1:¬k<1:=(by omega);have f2:6<=k:=(by omega);have f3:5<k:=(by omega)
   refine Fun.of (fun _=>[]) Tryz.func102 rfl (zi rfl) (by kernel_rfl) ?_;dsimp only[Tryz.f102]
   push_cast -dsimp [f1,f2,f3,n1,n2,n3,n4,n5]
   exact ⟨[],rfl,rfl,by push_cast -dsimp [zb,za,CLe,zd]<;>simp[X3,n1,n2,n3,n4,n5]⟩
 ·have n1:¬k=1:=(by omega);have n2:¬k=2:=(by omega);have n3:¬k=3:=(by omega);have n4:¬k=4:=(by omega);have n5:¬k=5:=(by omega)
  have f1:k<1:=by omega
  refine Fun.of (fun _=>[]) Tryz.func102 rfl (zi rfl) (by kernel_rfl) ?_;dsimp only[Tryz.f102]
  push_cast -dsimp [f1,n1,n2,n3,n4,n5]
  exact ⟨[],rfl,rfl,by push_cast -dsimp [zb,za,CLe,zd]<;>simp[X3,n1,n2,n3,n4,n5]⟩
theorem zdR (k:Int):Fun Tryz.prog G0 108 [.sc (.int .i64 k)] (.str (X3 k)) 0:=by
 by_cases h1:1<=k
 ·by_cases h2:k<=5
  ·have hc:k=1∨k=2∨k=3∨k=4∨k=5:=by omega
   clear h1 h2
   rcases hc with rfl | rfl | rfl | rfl | rfl
   all_goals
    refine Fun.of (fun _=>[]) Tryz.func108 rfl (zi rfl) (by kernel_rfl) ?_;dsimp only[Tryz.f108]
    push_cast -dsimp
    exact ⟨[],rfl,rfl,by simp only[X3];push_cast -dsimp [zb,za,CLe,zd]<;>rfl⟩
  ·have n1:¬k=1:=(by omega);have n2:¬k=2:=(by omega);have n3:¬k=3:=(by omega);have n4:¬k=4:=(by omega);have n5:¬k=5:=(by omega)
   have f1:¬k<1:=(by omega);have f2:6<=k:=(by omega);have f3:5<k:=(by omega)
   refine Fun.of (fun _=>[]) Tryz.func108 rfl (zi rfl) (by kernel_rfl) ?_;dsimp only[Tryz.f108]
   push_cast -dsimp [f1,f2,f3,n1,n2,n3,n4,n5]
   exact ⟨[],rfl,rfl,by push_cast -dsimp [zb,za,CLe,zd]<;>simp[X3,n1,n2,n3,n4,n5]⟩
 ·have n1:¬k=1:=(by omega);have n2:¬k=2:=(by omega);have n3:¬k=3:=(by omega);have n4:¬k=4:=(by omega);have n5:¬k=5:=(by omega)
  have f1:k<1:=by omega
  refine Fun.of (fun _=>[]) Tryz.func108 rfl (zi rfl) (by kernel_rfl) ?_;dsimp only[Tryz.f108]
  push_cast -dsimp [f1,n1,n2,n3,n4,n5]
  exact ⟨[],rfl,rfl,by push_cast -dsimp [zb,za,CLe,zd]<;>simp[X3,n1,n2,n3,n4,n5]⟩
theorem u9 (k:Int):Fun Tryz.prog G2 103 [.sc (.int .i64 k)] (.str (zQ k)) 0:=by
 by_cases h1:0<=k
 ·by_cases h2:k<=22
  ·have hc:k=0∨k=1∨k=2∨k=3∨k=4∨k=5∨k=6∨k=7∨k=8∨k=9∨k=10∨k=11∨k=12∨k=13∨k=14∨k=15∨k=16∨k=17∨k=18∨k=19∨k=20∨k=21∨k=22:=by omega
   clear h1 h2
   rcases hc with rfl | rfl | rfl | rfl | rfl | rfl | rfl | rfl | rfl | rfl | rfl | rfl | rfl | rfl | rfl | rfl | rfl | rfl | rfl | rfl | rfl | rfl | rfl
   all_goals
    refine Fun.of (fun _=>[]) Tryz.func103 rfl (zi rfl) (by kernel_rfl) ?_;dsimp only[Tryz.f103]
    push_cast -dsimp
    exact ⟨[],rfl,rfl,by simp only[zQ];push_cast -dsimp [zb,za,CLe,zd]<;>rfl⟩
  ·have n1:¬k=1:=(by omega);have n2:¬k=2:=(by omega);have n3:¬k=3:=(by omega);have n4:¬k=4:=(by omega);have n5:¬k=5:=(by omega);have n6:¬k=6:=(by omega);have n7:¬k=7:=(by omega);have n8:¬k=8:=(by omega);have n9:¬k=9:=(by omega);have n10:¬k=10:=(by omega);have n11:¬k=11:=(by omega);have n12:¬k=12:=(by omega);have n13:¬k=13:=(by omega);have n14:¬k=14:=(by omega);have n15:¬k=15:=(by omega);have n16:¬k=16:=(by omega);have n17:¬k=17:=(by omega);have n18:¬k=18:=(by omega);have n19:¬k=19:=(by omega);have n20:¬k=20:=(by omega);have n21:¬k=21:=(by omega);have n22:¬k=22:=(by omega)
   have f1:¬k<0:=(by omega);have f2:23<=k:=(by omega);have f3:22<k:=(by omega)
   refine Fun.of (fun _=>[]) Tryz.func103 rfl (zi rfl) (by kernel_rfl) ?_;dsimp only[Tryz.f103]
   push_cast -dsimp [f1,f2,f3,n1,n2,n3,n4,n5,n6,n7,n8,n9,n10,n11,n12,n13,n14,n15,n16,n17,n18,n19,n20,n21,n22]
   exact ⟨[],rfl,rfl,by push_cast -dsimp [zb,za,CLe,zd]<;>simp[zQ,n1,n2,n3,n4,n5,n6,n7,n8,n9,n10,n11,n12,n13,n14,n15,n16,n17,n18,n19,n20,n21,n22]⟩
 ·have n1:¬k=1:=(by omega);have n2:¬k=2:=(by omega);have n3:¬k=3:=(by omega);have n4:¬k=4:=(by omega);have n5:¬k=5:=(by omega);have n6:¬k=6:=(by omega);have n7:¬k=7:=(by omega);have n8:¬k=8:=(by omega);have n9:¬k=9:=(by omega);have n10:¬k=10:=(by omega);have n11:¬k=11:=(by omega);have n12:¬k=12:=(by omega);have n13:¬k=13:=(by omega);have n14:¬k=14:=(by omega);have n15:¬k=15:=(by omega);have n16:¬k=16:=(by omega);have n17:¬k=17:=(by omega);have n18:¬k=18:=(by omega);have n19:¬k=19:=(by omega);have n20:¬k=20:=(by omega);have n21:¬k=21:=(by omega);have n22:¬k=22:=(by omega)
  have f1:k<0:=by omega
  refine Fun.of (fun _=>[]) Tryz.func103 rfl (zi rfl) (by kernel_rfl) ?_;dsimp only[Tryz.f103]
  push_cast -dsimp [f1,n1,n2,n3,n4,n5,n6,n7,n8,n9,n10,n11,n12,n13,n14,n15,n16,n17,n18,n19,n20,n21,n22]
  exact ⟨[],rfl,rfl,by push_cast -dsimp [zb,za,CLe,zd]<;>simp[zQ,n1,n2,n3,n4,n5,n6,n7,n8,n9,n10,n11,n12,n13,n14,n15,n16,n17,n18,n19,n20,n21,n22]⟩
theorem M2 (k:Int):Fun Tryz.prog G2 155 [.sc (.int .i64 k)] (.str (Ub k)) 0:=by
 by_cases h1:0<=k
 ·by_cases h2:k<=13
  ·have hc:k=0∨k=1∨k=2∨k=3∨k=4∨k=5∨k=6∨k=7∨k=8∨k=9∨k=10∨k=11∨k=12∨k=13:=by omega
   clear h1 h2
   rcases hc with rfl | rfl | rfl | rfl | rfl | rfl | rfl | rfl | rfl | rfl | rfl | rfl | rfl | rfl
   all_goals
    refine Fun.of (fun _=>[]) Tryz.func155 rfl (zi rfl) (by kernel_rfl) ?_;dsimp only[Tryz.f155]
    push_cast -dsimp
    exact ⟨[],rfl,rfl,by simp only[Ub];push_cast -dsimp [zb,za,CLe,zd]<;>rfl⟩
  ·have n0:¬k=0:=(by omega);have n1:¬k=1:=(by omega);have n2:¬k=2:=(by omega);have n3:¬k=3:=(by omega);have n4:¬k=4:=(by omega);have n5:¬k=5:=(by omega);have n6:¬k=6:=(by omega);have n7:¬k=7:=(by omega);have n8:¬k=8:=(by omega);have n9:¬k=9:=(by omega);have n10:¬k=10:=(by omega);have n11:¬k=11:=(by omega);have n12:¬k=12:=(by omega);have n13:¬k=13:=(by omega)
   have f1:¬k<0:=(by omega);have f2:14<=k:=(by omega);have f3:13<k:=(by omega)
   refine Fun.of (fun _=>[]) Tryz.func155 rfl (zi rfl) (by kernel_rfl) ?_;dsimp only[Tryz.f155]
   push_cast -dsimp [f1,f2,f3,n0,n1,n2,n3,n4,n5,n6,n7,n8,n9,n10,n11,n12,n13]
   exact ⟨[],rfl,rfl,by push_cast -dsimp [zb,za,CLe,zd]<;>simp[Ub,n0,n1,n2,n3,n4,n5,n6,n7,n8,n9,n10,n11,n12,n13]⟩
 ·have n0:¬k=0:=(by omega);have n1:¬k=1:=(by omega);have n2:¬k=2:=(by omega);have n3:¬k=3:=(by omega);have n4:¬k=4:=(by omega);have n5:¬k=5:=(by omega);have n6:¬k=6:=(by omega);have n7:¬k=7:=(by omega);have n8:¬k=8:=(by omega);have n9:¬k=9:=(by omega);have n10:¬k=10:=(by omega);have n11:¬k=11:=(by omega);have n12:¬k=12:=(by omega);have n13:¬k=13:=(by omega)
  have f1:k<0:=by omega
  refine Fun.of (fun _=>[]) Tryz.func155 rfl (zi rfl) (by kernel_rfl) ?_;dsimp only[Tryz.f155]
  push_cast -dsimp [f1,n0,n1,n2,n3,n4,n5,n6,n7,n8,n9,n10,n11,n12,n13]
  exact ⟨[],rfl,rfl,by push_cast -dsimp [zb,za,CLe,zd]<;>simp[Ub,n0,n1,n2,n3,n4,n5,n6,n7,n8,n9,n10,n11,n12,n13]⟩
theorem Mi (k:Int):Fun Tryz.prog G0 111 [.sc (.int .i64 k)] (.str (Ub k)) 0:=by
 by_cases h1:0<=k
 ·by_cases h2:k<=13
  ·have hc:k=0∨k=1∨k=2∨k=3∨k=4∨k=5∨k=6∨k=7∨k=8∨k=9∨k=10∨k=11∨k=12∨k=13:=by omega
   clear h1 h2
   rcases hc with rfl | rfl | rfl | rfl | rfl | rfl | rfl | rfl | rfl | rfl | rfl | rfl | rfl | rfl
   all_goals
    refine Fun.of (fun _=>[]) Tryz.func111 rfl (zi rfl) (by kernel_rfl) ?_;dsimp only[Tryz.f111]
    push_cast -dsimp
    exact ⟨[],rfl,rfl,by simp only[Ub];push_cast -dsimp [zb,za,CLe,zd]<;>rfl⟩
  ·have n0:¬k=0:=(by omega);have n1:¬k=1:=(by omega);have n2:¬k=2:=(by omega);have n3:¬k=3:=(by omega);have n4:¬k=4:=(by omega);have n5:¬k=5:=(by omega);have n6:¬k=6:=(by omega);have n7:¬k=7:=(by omega);have n8:¬k=8:=(by omega);have n9:¬k=9:=(by omega);have n10:¬k=10:=(by omega);have n11:¬k=11:=(by omega);have n12:¬k=12:=(by omega);have n13:¬k=13:=(by omega)
   have f1:¬k<0:=(by omega);have f2:14<=k:=(by omega);have f3:13<k:=(by omega)
   refine Fun.of (fun _=>[]) Tryz.func111 rfl (zi rfl) (by kernel_rfl) ?_;dsimp only[Tryz.f111]
   push_cast -dsimp [f1,f2,f3,n0,n1,n2,n3,n4,n5,n6,n7,n8,n9,n10,n11,n12,n13]
   exact ⟨[],rfl,rfl,by push_cast -dsimp [zb,za,CLe,zd]<;>simp[Ub,n0,n1,n2,n3,n4,n5,n6,n7,n8,n9,n10,n11,n12,n13]⟩
 ·have n0:¬k=0:=(by omega);have n1:¬k=1:=(by omega);have n2:¬k=2:=(by omega);have n3:¬k=3:=(by omega);have n4:¬k=4:=(by omega);have n5:¬k=5:=(by omega);have n6:¬k=6:=(by omega);have n7:¬k=7:=(by omega);have n8:¬k=8:=(by omega);have n9:¬k=9:=(by omega);have n10:¬k=10:=(by omega);have n11:¬k=11:=(by omega);have n12:¬k=12:=(by omega);have n13:¬k=13:=(by omega)
  have f1:k<0:=by omega
  refine Fun.of (fun _=>[]) Tryz.func111 rfl (zi rfl) (by kernel_rfl) ?_;dsimp only[Tryz.f111]
  push_cast -dsimp [f1,n0,n1,n2,n3,n4,n5,n6,n7,n8,n9,n10,n11,n12,n13]
  exact ⟨[],rfl,rfl,by push_cast -dsimp [zb,za,CLe,zd]<;>simp[Ub,n0,n1,n2,n3,n4,n5,n6,n7,n8,n9,n10,n11,n12,n13]⟩
open QuotePlain in
theorem GX (l:List UInt8) (hl:l.length<=1000000):Fun Tryz.prog G0 154 [.str l] (.str (qB l)) 0:=by
 refine Fun.wrap (by kernel_rfl) fun R vs h=>?_
 obtain ⟨v1,us1,rfl,h1,h⟩:=ze.1 h
 rw[zj]at h
 subst h
 rw[zU]at h1
 subst h1
 refine (QuoteWalk.quote_walk ⟨l.toArray⟩ R.w (by simp[ByteArray.size];omega)).mono ?_
 rintro e w' ⟨rfl,hb⟩
 exact ⟨_,rfl,hb,fun R' _=>zU.2 (by simp[Kit.ofL,Kit.toL])⟩
open QuotePlain in
theorem ky (l:List UInt8) (hl:l.length<=1000000):Fun Tryz.prog G0 110 [.str l] (.str (qB l)) 0:=by
 refine Fun.wrap (by kernel_rfl) fun R vs h=>?_
 obtain ⟨v1,us1,rfl,h1,h⟩:=ze.1 h
 rw[zj]at h
 subst h
 rw[zU]at h1
 subst h1
 refine (QuoteWalk.refQuote_walk ⟨l.toArray⟩ R.w (by simp[ByteArray.size];omega)).mono ?_
 rintro e w' ⟨rfl,hb⟩
 exact ⟨_,rfl,hb,fun R' _=>zU.2 (by simp[Kit.ofL,Kit.toL])⟩
end
section
open Go.RowKit
theorem Fun.res {P:Program} {G:zm} {f:FuncId} {args:List C} {r r':C} {n:Nat} (h:Fun P G f args r n) (e:r=r'):Fun P G f args r' n:=e▸h
theorem Vd.glob0 {P:Program} {G':zm} {f:FuncId} {args:List C} {bx bx':List (List C)} {q:Nat} {r:C} {n:Nat} (h:Vd P G0 f args bx q r bx' n):Vd P G' f args bx q r bx' n:=
 ⟨h.1,fun R L vs hg=>h.2 R L vs fun g cs e=>by cases e⟩
theorem ko.glob0 {P:Program} {G':zm} {f:FuncId} {first cap:List C} {bx items:List (List C)} (h:ko P G0 f first cap bx items):ko P G' f first cap bx items:=
 ⟨h.1,fun l st J R L us vs hg=>h.2 l st J R L us vs fun g cs e=>by cases e⟩
def JD (c:UInt8):List UInt8->List (List UInt8)
 | []=>[[]]
 | b :: l=>if b=c then [] :: JD c l else match JD c l with
  | []=>[[b]]
  | x :: r=>(b :: x) :: r
theorem Uz (c:UInt8):∀ l:List UInt8,Lib.indexByte l c<0->JD c l = [l]
 | [],_=>rfl
 | b :: l,h=>by
  unfold Lib.indexByte at h
  by_cases hb:b=c
  ·subst hb;simp at h
  ·have hb':(b==c)=false:=by simpa using hb
   rw[hb']at h
   simp only[Bool.false_eq_true,if_false]at h
   have hl:Lib.indexByte l c<0:=by
    split at h
    ·rename_i g;have:=beq_iff_eq.1 g;omega
    ·omega
   unfold JD
   rw[if_neg hb,Uz c l hl]
theorem UO (c:UInt8):∀ l:List UInt8,-1<=Lib.indexByte l c
 | []=>Int.le_refl _
 | b :: l=>by
  have:=UO c l
  unfold Lib.indexByte
  split
  ·decide
  ·split
   ·decide
   ·omega
theorem GW (c:UInt8):∀ (l:List UInt8) (i:Nat),Lib.indexByte l c=(i:Int)->i<l.length/\JD c l=l.take i :: JD c (l.drop (i+1))
 | [],i,h=>by
  have h:(-1:Int)=(i:Int):=h
  omega
 | b :: l,i,h=>by
  unfold Lib.indexByte at h
  by_cases hb:b=c
  ·subst hb
   simp at h
   obtain rfl:i=0:=by omega
   refine ⟨by simp,?_⟩
   conv=>lhs;unfold JD
   simp
  ·have hb':(b==c)=false:=by simpa using hb
   rw[hb']at h
   simp only[Bool.false_eq_true,if_false]at h
   split at h
   ·omega
   ·rename_i g
    have g':Lib.indexByte l c≠-1:=by simpa using g
    have hg:=UO c l
    obtain ⟨j,rfl⟩:∃ j,i=j+1:=⟨i-1,by omega⟩
    have hj:Lib.indexByte l c=(j:Int):=by omega
    obtain ⟨h1,h2⟩:=GW c l j hj
    refine ⟨by simp;omega,?_⟩
    conv=>lhs;unfold JD
    rw[if_neg hb,h2]
    simp
theorem xv (c:UInt8) (l:List UInt8):(JD c l).length<=l.length+1:=by
 induction l with
 | nil=>simp[JD]
 | cons b l ih =>
  unfold JD
  split
  ·simp;omega
  ·split
   ·simp
   ·rename_i x r h
    rw[h]at ih
    simp at ih ⊢;omega
theorem zaK (c:UInt8) (l:List UInt8):Fun Tryz.prog G0 186 [.str l,.str [c]] (.sc (.int .i64 (Lib.indexByte l c))) 0:=by
 refine Fun.wrap (by kernel_rfl) fun R vs h=>?_
 obtain ⟨v1,us1,rfl,h1,h⟩:=ze.1 h
 obtain ⟨v2,us2,rfl,h2,h⟩:=ze.1 h
 rw[zj]at h
 subst h
 rw[zU]at h1 h2
 subst h1 h2
 refine (Tryz.strings_Index_one ⟨l.toArray⟩ c R.w).mono ?_
 rintro e w' ⟨rfl,rfl⟩
 exact ⟨_,rfl,Below.refl _ _,fun R' _=>zo.2 (by simp)⟩
theorem N7 (c:UInt8) (s:List UInt8) (hs:s.length<=1000000):ko Tryz.prog G0 184 [] [.ptr 1 0,.ptr 0 0,.ptr 2 0] [[.str s],[.str [c]],[.sc (.int .i64 0)]] (qZ (JD c s)):=by
 refine ko.of (fun _=>[]) Tryz.func184 rfl (zi rfl) (by kernel_rfl) ?_;dsimp only[Tryz.f184]
 intro l sf
 push_cast -dsimp
 refine loop (fun x:List UInt8×Nat=>⟨[(0,.sc (.func (.yield l) #[] #[])),(1,.ptr 1 0),(2,.ptr 0 0),(3,.ptr 2 0)],[[.str x.1],[.str [c]],[.sc (.int .i64 0)]],0,x.2⟩)
  (fun x=>x.1.length<=1000000/\(∃ done,JD c s=done++JD c x.1/\done.length=x.2)/\∀ j,j<x.2->sf j=false) (fun x=>x.1.length) (s,0) ⟨hs,⟨[],rfl,rfl⟩,fun j hj=>by omega⟩ ?_ ?_
 ·refine zH.mk [] rfl rfl (Nat.zero_le _) rfl ?_ ?_<;>push_cast -dsimp [zb,za,CLe,zd]<;>omega
 ·rintro ⟨r,k⟩ hx
  simp only at hx ⊢
  have hr:=hx.1
  have hsf:=hx.2.2
  obtain ⟨done,hd,hdl⟩:=hx.2.1
  clear hx
  push_cast -dsimp
  refine call (zaK c r) ?_
  push_cast -dsimp
  by_cases hi:Lib.indexByte r c<0
  ·push_cast -dsimp [hi]
   have hk:(qZ (JD c s))[k]?=some [.str r]:=by
    rw[hd,Uz c r hi];simp[←hdl]
   rw[hk]
   push_cast -dsimp
   refine ⟨by push_cast -dsimp [zb,za,CLe,zd],hsf,?_⟩
   cases hk2:sf k with
   | true=>exact .inr ⟨Nat.succ_pos k,hk2⟩
   | false =>
    refine .inl ⟨?_,fun j (hj:j<k+1)=>?_⟩
    ·rw[hd,Uz c r hi];simp[hdl]
    ·rcases Nat.lt_or_ge j k with g | g
     ·exact hsf j g
     ·rw[show j=k by omega];exact hk2
  ·have hg:=UO c r
   obtain ⟨i,hii⟩:∃ i:Nat,Lib.indexByte r c=(i:Int):=⟨(Lib.indexByte r c).toNat,by omega⟩
   obtain ⟨hir,hsp⟩:=GW c r i hii
   have hk:(qZ (JD c s))[k]?=some [.str (r.take i)]:=by
    rw[hd,hsp];simp[←hdl]
   rw[hii]at hi ⊢
   push_cast -dsimp [hi]
   rw[hk]
   push_cast -dsimp
   refine ⟨by omega,by omega,by push_cast -dsimp [zb,za,CLe,zd],hsf,br (fun hk2=>?_) (fun hk2=>?_)⟩
   ·push_cast -dsimp
    exact .inr ⟨Nat.succ_pos k,hk2⟩
   ·push_cast -dsimp
    refine ⟨by omega,by omega,(r.drop (i+1),k+1),⟨by simp;omega,⟨done++[r.take i],by rw[hd,hsp];simp,by simp[hdl]⟩,fun j (hj:j<k+1)=>?_⟩,by simp;omega,zH.mk [] rfl rfl (Nat.zero_le _) rfl ?_ ?_⟩
    ·rcases Nat.lt_or_ge j k with g | g
     ·exact hsf j g
     ·rw[show j=k by omega];exact hk2
    ·push_cast -dsimp [zb,za,CLe,zd]
    ·push_cast -dsimp [zb,za,CLe,zd]
theorem HY (c:UInt8) (s:List UInt8):Vd Tryz.prog G0 152 [.str s,.str [c],.sc (.int .i64 0)] [] 0 (.clo (.func 184) [] [.ptr 1 0,.ptr 0 0,.ptr 2 0]) [[.str s],[.str [c]],[.sc (.int .i64 0)]] 0:=by
 refine Vd.of (fun _=>[]) Tryz.func152 rfl (zi rfl) (by kernel_rfl) (zi rfl) ?_;dsimp only[Tryz.f152]
 push_cast -dsimp
 exact ⟨[],rfl,rfl,by push_cast -dsimp [zb,za,CLe,zd],by push_cast -dsimp [zb,za,CLe,zd]⟩
theorem GG (c:UInt8) (s:List UInt8):Vd Tryz.prog G0 104 [.str s,.str [c]] [] 0 (.clo (.func 184) [] [.ptr 1 0,.ptr 0 0,.ptr 2 0]) [[.str s],[.str [c]],[.sc (.int .i64 0)]] 0:=by
 refine Vd.of (fun _=>[]) Tryz.func104 rfl (zi rfl) (by kernel_rfl) (zi rfl) ?_;dsimp only[Tryz.f104]
 push_cast -dsimp
 refine x4 [] [] (HY c s) rfl (by simp) (by simp) (fun i hi=>by cases hi) (by push_cast -dsimp) rfl ?_
 push_cast -dsimp
 exact ⟨[],rfl,rfl,by push_cast -dsimp [zb,za,CLe,zd],by push_cast -dsimp [zb,za,CLe,zd]⟩
end
section
open CA CB
open Go.RowKit QuotePlain
def zl (l:List UInt8):List UInt8:=Lib.trimRightS l [58,44]
theorem zef (l:List UInt8):(zl l).length<=l.length:=by
 unfold zl Lib.trimRightS
 rw[List.length_reverse]
 have:=(List.dropWhile_sublist (([58,44]:List UInt8).contains ·) (l:=l.reverse)).length_le
 rw[List.length_reverse]at this
 exact this
theorem zir (l:List UInt8) (h0:l≠[]) (hl:l.length<=1000000):Fun Tryz.prog G0 153 [.str l,.str [58,44]] (.str (zl l)) 0:=by
 refine Fun.wrap (by kernel_rfl) fun R vs h=>?_
 obtain ⟨v1,us1,rfl,h1,h⟩:=ze.1 h
 obtain ⟨v2,us2,rfl,h2,h⟩:=ze.1 h
 rw[zj]at h
 subst h
 rw[zU]at h1 h2
 subst h1 h2
 have hpos:=List.length_pos_iff.2 h0
 refine (Any.strings_TrimRight_set Tryz.lays162 kM (by kernel_rfl) ⟨l.toArray⟩ ⟨#[58,44]⟩ R.w (by decide) (by simpa [ByteArray.size] using hpos) (by simp[ByteArray.size];omega) (by decide) (fun j b hb=>?_)).mono ?_
 ·match j,hb with
  | 0,hb=>cases hb;decide
  | 1,hb=>cases hb;decide
  | j+2,hb=>simp at hb
 ·rintro e w' ⟨rfl,rfl⟩
  exact ⟨_,rfl,((Below.refl _ _).alloc (Nat.le_refl _) _).alloc (by simp) _,fun R' _=>zU.2 (by simp[zl])⟩
def zf (w qa qb m:List UInt8):List UInt8:=
 if zl w = [65] then qa++w.drop (zl w).length else if zl w = [66] then qb++w.drop (zl w).length else if zl w = [69] then m++w.drop (zl w).length else w
theorem JQ (l:List UInt8):(qB l).length<=4*l.length+2:=by
 have:=QuoteWalk.mid_len l
 simp only[qB,List.length_cons,List.length_append,List.length_nil]
 omega
theorem Gf (e:Int):(Ub e).length<=100:=by
 have key:∀ (c:Prop) [Decidable c] (x y:List UInt8),x.length<=100->y.length<=100->(if c then x else y).length<=100:=fun c _ x y hx hy=>by
  by_cases h:c
  ·rw[if_pos h];exact hx
  ·rw[if_neg h];exact hy
 unfold Ub
 repeat' (first | decide | refine key _ _ _ (by decide) ?_)
theorem zcv (w a b:List UInt8) (e:Int) (ha:a.length<=1000) (hb:b.length<=1000):(zf w (qB a) (qB b) (Ub e)).length<=w.length+5000:=by
 have h1:=JQ a
 have h2:=JQ b
 have h3:=Gf e
 unfold zf
 repeat' split
 all_goals (try simp only[List.length_append,List.length_drop]);omega
theorem zhF (w a b:List UInt8) (e:Int) (h0:w≠[]) (hw:w.length<=1000) (ha:a.length<=1000) (hb:b.length<=1000):Fun Tryz.prog G2 105 [.str w,.str a,.str b,.sc (.int .i64 e)] (.str (zf w (qB a) (qB b) (Ub e))) 0:=by
 have h1:=(zir w h0 (by omega)).glob0 (G':=G2)
 have h2:=(GX a (by omega)).glob0 (G':=G2)
 have h3:=(GX b (by omega)).glob0 (G':=G2)
 have h4:=M2 e
 have hl:=zef w
 have l1:=JQ a
 have l2:=JQ b
 have l3:=Gf e
 by_cases hA:zl w = [65]
 ·refine Fun.of (fun _=>[]) Tryz.func105 rfl (zi rfl) (by kernel_rfl) ?_;dsimp only[Tryz.f105]
  push_cast -dsimp
  refine cl (h1) ?_;push_cast -dsimp
  (try simp only[lS]);repeat refine And.intro (by omega) ?_
  push_cast -dsimp [hA]
  refine cl (h2) ?_;push_cast -dsimp
  (try simp only[lS]);repeat refine And.intro (by omega) ?_
  exact ⟨[],rfl,rfl,by push_cast -dsimp [zb,za,CLe,zd]<;>simp[zf,hA]⟩
 ·by_cases hB:zl w = [66]
  ·have hA':¬([66]:List UInt8) = [65]:=by decide
   refine Fun.of (fun _=>[]) Tryz.func105 rfl (zi rfl) (by kernel_rfl) ?_;dsimp only[Tryz.f105]
   push_cast -dsimp
   refine cl (h1) ?_;push_cast -dsimp
   (try simp only[lS]);repeat refine And.intro (by omega) ?_
   push_cast -dsimp [hB,hA']
   refine cl (h3) ?_;push_cast -dsimp
   (try simp only[lS]);repeat refine And.intro (by omega) ?_
   exact ⟨[],rfl,rfl,by push_cast -dsimp [zb,za,CLe,zd]<;>simp[zf,hB]⟩
  ·by_cases hE:zl w = [69]
   ·have hA':¬([69]:List UInt8) = [65]:=by decide
    have hB':¬([69]:List UInt8) = [66]:=by decide
    refine Fun.of (fun _=>[]) Tryz.func105 rfl (zi rfl) (by kernel_rfl) ?_;dsimp only[Tryz.f105]
    push_cast -dsimp
    refine cl (h1) ?_;push_cast -dsimp
    (try simp only[lS]);repeat refine And.intro (by omega) ?_
    push_cast -dsimp [hE,hA',hB']
    refine cl (h4) ?_;push_cast -dsimp
    (try simp only[lS]);repeat refine And.intro (by omega) ?_
    exact ⟨[],rfl,rfl,by push_cast -dsimp [zb,za,CLe,zd]<;>simp[zf,hE]⟩
   ·refine Fun.of (fun _=>[]) Tryz.func105 rfl (zi rfl) (by kernel_rfl) ?_;dsimp only[Tryz.f105]
    push_cast -dsimp
    refine cl (h1) ?_;push_cast -dsimp
    (try simp only[lS]);repeat refine And.intro (by omega) ?_
    push_cast -dsimp [hA,hB,hE]
    exact ⟨[],rfl,rfl,by push_cast -dsimp [zb,za,CLe,zd]<;>simp[zf,hA,hB,hE]⟩
theorem zgo (xs:List (List UInt8)) (hx:xs.length<=1000001) (hl:(Lib.join xs [58,32]).length<=100000000):Fun Tryz.prog G0 106 [.sl 1 (qZ xs)] (.str (Lib.join xs [58,32])) 0:=by
 refine Fun.of (fun _=>[]) Tryz.func106 rfl (zi rfl) (by kernel_rfl) ?_;dsimp only[Tryz.f106]
 push_cast -dsimp
 refine cl (HU xs [58,32] hx hl) ?_;push_cast -dsimp
 exact ⟨[],rfl,rfl,by push_cast -dsimp [zb,za,CLe,zd]⟩
end
section
open CA CB
open Go.RowKit QuotePlain
def X1 (k:Int) (qa qb m:List UInt8):List UInt8:=if k=1 then [99,97,110,110,111,116,32,99,114,101,97,116,101,32,100,105,114,101,99,116,111,114,121,32]++qa++[58,32]++m else if k=2 then [99,97,110,110,111,116,32,114,101,109,111,118,101,32]++qa++[58,32]++m else if k=3 then [114,101,102,117,115,105,110,103,32,116,111,32,114,101,109,111,118,101,32,34,46,34,32,111,114,32,34,46,46,34,32,100,105,114,101,99,116,111,114,121,58,32,115,107,105,112,112,105,110,103,32]++qa else if k=4 then [105,116,32,105,115,32,100,97,110,103,101,114,111,117,115,32,116,111,32,111,112,101,114,97,116,101,32,114,101,99,117,114,115,105,118,101,108,121,32,111,110,32]++qa else if k=5 then [102,97,105,108,101,100,32,116,111,32,97,99,99,101,115,115,32]++qa++[58,32]++m else if k=6 then qa++[58,32,104,97,114,100,32,108,105,110,107,32,110,111,116,32,97,108,108,111,119,101,100,32,102,111,114,32,100,105,114,101,99,116,111,114,121] else if k=7 then [102,97,105,108,101,100,32,116,111,32,99,114,101,97,116,101,32,104,97,114,100,32,108,105,110,107,32]++qb++[58,32]++m else if k=8 then [102,97,105,108,101,100,32,116,111,32,99,114,101,97,116,101,32,115,121,109,98,111,108,105,99,32,108,105,110,107,32]++qb++[58,32]++m else if k=9 then qa++[32,97,110,100,32]++qb++[32,97,114,101,32,116,104,101,32,115,97,109,101,32,102,105,108,101] else if k=10 then [116,97,114,103,101,116,32]++qa++[32,105,115,32,110,111,116,32,97,32,100,105,114,101,99,116,111,114,121] else if k=11 then [99,97,110,110,111,116,32,115,116,97,116,32]++qa++[58,32]++m else if k=12 then [99,97,110,110,111,116,32,111,118,101,114,119,114,105,116,101,32,110,111,110,45,100,105,114,101,99,116,111,114,121,32]++qb++[32,119,105,116,104,32,100,105,114,101,99,116,111,114,121,32]++qa else if k=13 then [99,97,110,110,111,116,32,111,118,101,114,119,114,105,116,101,32,100,105,114,101,99,116,111,114,121,32]++qb++[32,119,105,116,104,32,110,111,110,45,100,105,114,101,99,116,111,114,121,32]++qa else if k=14 then [99,97,110,110,111,116,32,109,111,118,101,32]++qa++[32,116,111,32,97,32,115,117,98,100,105,114,101,99,116,111,114,121,32,111,102,32,105,116,115,101,108,102,44,32]++qb else if k=15 then [99,97,110,110,111,116,32,109,111,118,101,32]++qa++[32,116,111,32]++qb++[58,32]++m else if k=16 then [45,114,32,110,111,116,32,115,112,101,99,105,102,105,101,100,59,32,111,109,105,116,116,105,110,103,32,100,105,114,101,99,116,111,114,121,32]++qa else if k=17 then [99,97,110,110,111,116,32,99,114,101,97,116,101,32,114,101,103,117,108,97,114,32,102,105,108,101,32]++qb++[58,32]++m else if k=18 then [99,97,110,110,111,116,32,99,114,101,97,116,101,32,115,121,109,98,111,108,105,99,32,108,105,110,107,32]++qb++[58,32]++m else if k=19 then [99,97,110,110,111,116,32,99,111,112,121,32,97,32,100,105,114,101,99,116,111,114,121,44,32]++qa++[44,32,105,110,116,111,32,105,116,115,101,108,102,44,32]++qb else if k=20 then [110,111,116,32,119,114,105,116,105,110,103,32,116,104,114,111,117,103,104,32,100,97,110,103,108,105,110,103,32,115,121,109,108,105,110,107,32]++qb else if k=21 then [101,114,114,111,114,32,119,114,105,116,105,110,103,32]++qb++[58,32]++m else if k=22 then [99,97,110,110,111,116,32,99,114,101,97,116,101,32,100,105,114,101,99,116,111,114,121,32]++qb++[58,32]++m else []
theorem Qd (k:Int) (h:¬(1<=k/\k<=22)):zQ k = []:=by
 have n1:¬k=1:=by omega
 have n2:¬k=2:=by omega
 have n3:¬k=3:=by omega
 have n4:¬k=4:=by omega
 have n5:¬k=5:=by omega
 have n6:¬k=6:=by omega
 have n7:¬k=7:=by omega
 have n8:¬k=8:=by omega
 have n9:¬k=9:=by omega
 have n10:¬k=10:=by omega
 have n11:¬k=11:=by omega
 have n12:¬k=12:=by omega
 have n13:¬k=13:=by omega
 have n14:¬k=14:=by omega
 have n15:¬k=15:=by omega
 have n16:¬k=16:=by omega
 have n17:¬k=17:=by omega
 have n18:¬k=18:=by omega
 have n19:¬k=19:=by omega
 have n20:¬k=20:=by omega
 have n21:¬k=21:=by omega
 have n22:¬k=22:=by omega
 simp only[zQ,n1,n2,n3,n4,n5,n6,n7,n8,n9,n10,n11,n12,n13,n14,n15,n16,n17,n18,n19,n20,n21,n22,if_false]
theorem GC (k:Int) (qa qb m:List UInt8) (h:¬(1<=k/\k<=22)):X1 k qa qb m = []:=by
 have n1:¬k=1:=by omega
 have n2:¬k=2:=by omega
 have n3:¬k=3:=by omega
 have n4:¬k=4:=by omega
 have n5:¬k=5:=by omega
 have n6:¬k=6:=by omega
 have n7:¬k=7:=by omega
 have n8:¬k=8:=by omega
 have n9:¬k=9:=by omega
 have n10:¬k=10:=by omega
 have n11:¬k=11:=by omega
 have n12:¬k=12:=by omega
 have n13:¬k=13:=by omega
 have n14:¬k=14:=by omega
 have n15:¬k=15:=by omega
 have n16:¬k=16:=by omega
 have n17:¬k=17:=by omega
 have n18:¬k=18:=by omega
 have n19:¬k=19:=by omega
 have n20:¬k=20:=by omega
 have n21:¬k=21:=by omega
 have n22:¬k=22:=by omega
 simp only[X1,n1,n2,n3,n4,n5,n6,n7,n8,n9,n10,n11,n12,n13,n14,n15,n16,n17,n18,n19,n20,n21,n22,if_false]
theorem Nq (k:Int):zQ k = []∨((∀ x∈JD 32 (zQ k),x≠[]/\x.length<=100)/\(zQ k).length<=100):=by
 by_cases h:1<=k/\k<=22
 ·refine .inr ?_
  have hc:k=1∨k=2∨k=3∨k=4∨k=5∨k=6∨k=7∨k=8∨k=9∨k=10∨k=11∨k=12∨k=13∨k=14∨k=15∨k=16∨k=17∨k=18∨k=19∨k=20∨k=21∨k=22:=by omega
  clear h
  rcases hc with rfl | rfl | rfl | rfl | rfl | rfl | rfl | rfl | rfl | rfl | rfl | rfl | rfl | rfl | rfl | rfl | rfl | rfl | rfl | rfl | rfl | rfl<;>exact ⟨by decide +kernel,by decide +kernel⟩
 ·exact .inl (Qd k h)
theorem zf3 (k:Int) (qa qb m:List UInt8) (h:1<=k/\k<=22):Lib.join ((JD 32 (zQ k)).map fun w=>zf w qa qb m) [32]=X1 k qa qb m:=by
 have hc:k=1∨k=2∨k=3∨k=4∨k=5∨k=6∨k=7∨k=8∨k=9∨k=10∨k=11∨k=12∨k=13∨k=14∨k=15∨k=16∨k=17∨k=18∨k=19∨k=20∨k=21∨k=22:=by omega
 rcases hc with rfl | rfl | rfl | rfl | rfl | rfl | rfl | rfl | rfl | rfl | rfl | rfl | rfl | rfl | rfl | rfl | rfl | rfl | rfl | rfl | rfl | rfl
 ·have e1:JD 32 (zQ 1) = [[99,97,110,110,111,116],[99,114,101,97,116,101],[100,105,114,101,99,116,111,114,121],[65,58],[69]]:=by decide +kernel
  have s0:zf [99,97,110,110,111,116] qa qb m = [99,97,110,110,111,116]:=by simp only[zf,show zl [99,97,110,110,111,116] = [99,97,110,110,111,116] by decide +kernel];rfl
  have s1:zf [99,114,101,97,116,101] qa qb m = [99,114,101,97,116,101]:=by simp only[zf,show zl [99,114,101,97,116,101] = [99,114,101,97,116,101] by decide +kernel];rfl
  have s2:zf [100,105,114,101,99,116,111,114,121] qa qb m = [100,105,114,101,99,116,111,114,121]:=by simp only[zf,show zl [100,105,114,101,99,116,111,114,121] = [100,105,114,101,99,116,111,114,121] by decide +kernel];rfl
  have s3:zf [65,58] qa qb m=qa++[58]:=by simp only[zf,show zl [65,58] = [65] by decide +kernel];rfl
  have s4:zf [69] qa qb m=m++[]:=by simp only[zf,show zl [69] = [69] by decide +kernel];rfl
  rw[e1]
  simp only[List.map_cons,List.map_nil,s0,s1,s2,s3,s4]
  simp[Lib.join,List.intercalate,List.intersperse,X1]
 ·have e1:JD 32 (zQ 2) = [[99,97,110,110,111,116],[114,101,109,111,118,101],[65,58],[69]]:=by decide +kernel
  have s0:zf [99,97,110,110,111,116] qa qb m = [99,97,110,110,111,116]:=by simp only[zf,show zl [99,97,110,110,111,116] = [99,97,110,110,111,116] by decide +kernel];rfl
  have s1:zf [114,101,109,111,118,101] qa qb m = [114,101,109,111,118,101]:=by simp only[zf,show zl [114,101,109,111,118,101] = [114,101,109,111,118,101] by decide +kernel];rfl
  have s2:zf [65,58] qa qb m=qa++[58]:=by simp only[zf,show zl [65,58] = [65] by decide +kernel];rfl
  have s3:zf [69] qa qb m=m++[]:=by simp only[zf,show zl [69] = [69] by decide +kernel];rfl
  rw[e1]
  simp only[List.map_cons,List.map_nil,s0,s1,s2,s3]
  simp[Lib.join,List.intercalate,List.intersperse,X1]
 ·have e1:JD 32 (zQ 3) = [[114,101,102,117,115,105,110,103],[116,111],[114,101,109,111,118,101],[34,46,34],[111,114],[34,46,46,34],[100,105,114,101,99,116,111,114,121,58],[115,107,105,112,112,105,110,103],[65]]:=by decide +kernel
  have s0:zf [114,101,102,117,115,105,110,103] qa qb m = [114,101,102,117,115,105,110,103]:=by simp only[zf,show zl [114,101,102,117,115,105,110,103] = [114,101,102,117,115,105,110,103] by decide +kernel];rfl
  have s1:zf [116,111] qa qb m = [116,111]:=by simp only[zf,show zl [116,111] = [116,111] by decide +kernel];rfl
  have s2:zf [114,101,109,111,118,101] qa qb m = [114,101,109,111,118,101]:=by simp only[zf,show zl [114,101,109,111,118,101] = [114,101,109,111,118,101] by decide +kernel];rfl
  have s3:zf [34,46,34] qa qb m = [34,46,34]:=by simp only[zf,show zl [34,46,34] = [34,46,34] by decide +kernel];rfl
  have s4:zf [111,114] qa qb m = [111,114]:=by simp only[zf,show zl [111,114] = [111,114] by decide +kernel];rfl
  have s5:zf [34,46,46,34] qa qb m = [34,46,46,34]:=by simp only[zf,show zl [34,46,46,34] = [34,46,46,34] by decide +kernel];rfl
  have s6:zf [100,105,114,101,99,116,111,114,121,58] qa qb m = [100,105,114,101,99,116,111,114,121,58]:=by simp only[zf,show zl [100,105,114,101,99,116,111,114,121,58] = [100,105,114,101,99,116,111,114,121] by decide +kernel];rfl
  have s7:zf [115,107,105,112,112,105,110,103] qa qb m = [115,107,105,112,112,105,110,103]:=by simp only[zf,show zl [115,107,105,112,112,105,110,103] = [115,107,105,112,112,105,110,103] by decide +kernel];rfl
  have s8:zf [65] qa qb m=qa++[]:=by simp only[zf,show zl [65] = [65] by decide +kernel];rfl
  rw[e1]
  simp only[List.map_cons,List.map_nil,s0,s1,s2,s3,s4,s5,s6,s7,s8]
  simp[Lib.join,List.intercalate,List.intersperse,X1]
 ·have e1:JD 32 (zQ 4) = [[105,116],[105,115],[100,97,110,103,101,114,111,117,115],[116,111],[111,112,101,114,97,116,101],[114,101,99,117,114,115,105,118,101,108,121],[111,110],[65]]:=by decide +kernel
  have s0:zf [105,116] qa qb m = [105,116]:=by simp only[zf,show zl [105,116] = [105,116] by decide +kernel];rfl
  have s1:zf [105,115] qa qb m = [105,115]:=by simp only[zf,show zl [105,115] = [105,115] by decide +kernel];rfl
  have s2:zf [100,97,110,103,101,114,111,117,115] qa qb m = [100,97,110,103,101,114,111,117,115]:=by simp only[zf,show zl [100,97,110,103,101,114,111,117,115] = [100,97,110,103,101,114,111,117,115] by decide +kernel];rfl
  have s3:zf [116,111] qa qb m = [116,111]:=by simp only[zf,show zl [116,111] = [116,111] by decide +kernel];rfl
  have s4:zf [111,112,101,114,97,116,101] qa qb m = [111,112,101,114,97,116,101]:=by simp only[zf,show zl [111,112,101,114,97,116,101] = [111,112,101,114,97,116,101] by decide +kernel];rfl
  have s5:zf [114,101,99,117,114,115,105,118,101,108,121] qa qb m = [114,101,99,117,114,115,105,118,101,108,121]:=by simp only[zf,show zl [114,101,99,117,114,115,105,118,101,108,121] = [114,101,99,117,114,115,105,118,101,108,121] by decide +kernel];rfl
  have s6:zf [111,110] qa qb m = [111,110]:=by simp only[zf,show zl [111,110] = [111,110] by decide +kernel];rfl
  have s7:zf [65] qa qb m=qa++[]:=by simp only[zf,show zl [65] = [65] by decide +kernel];rfl
  rw[e1]
  simp only[List.map_cons,List.map_nil,s0,s1,s2,s3,s4,s5,s6,s7]
  simp[Lib.join,List.intercalate,List.intersperse,X1]
 ·have e1:JD 32 (zQ 5) = [[102,97,105,108,101,100],[116,111],[97,99,99,101,115,115],[65,58],[69]]:=by decide +kernel
  have s0:zf [102,97,105,108,101,100] qa qb m = [102,97,105,108,101,100]:=by simp only[zf,show zl [102,97,105,108,101,100] = [102,97,105,108,101,100] by decide +kernel];rfl
  have s1:zf [116,111] qa qb m = [116,111]:=by simp only[zf,show zl [116,111] = [116,111] by decide +kernel];rfl
  have s2:zf [97,99,99,101,115,115] qa qb m = [97,99,99,101,115,115]:=by simp only[zf,show zl [97,99,99,101,115,115] = [97,99,99,101,115,115] by decide +kernel];rfl
  have s3:zf [65,58] qa qb m=qa++[58]:=by simp only[zf,show zl [65,58] = [65] by decide +kernel];rfl
  have s4:zf [69] qa qb m=m++[]:=by simp only[zf,show zl [69] = [69] by decide +kernel];rfl
  rw[e1]
  simp only[List.map_cons,List.map_nil,s0,s1,s2,s3,s4]
  simp[Lib.join,List.intercalate,List.intersperse,X1]
 ·have e1:JD 32 (zQ 6) = [[65,58],[104,97,114,100],[108,105,110,107],[110,111,116],[97,108,108,111,119,101,100],[102,111,114],[100,105,114,101,99,116,111,114,121]]:=by decide +kernel
  have s0:zf [65,58] qa qb m=qa++[58]:=by simp only[zf,show zl [65,58] = [65] by decide +kernel];rfl
  have s1:zf [104,97,114,100] qa qb m = [104,97,114,100]:=by simp only[zf,show zl [104,97,114,100] = [104,97,114,100] by decide +kernel];rfl
  have s2:zf [108,105,110,107] qa qb m = [108,105,110,107]:=by simp only[zf,show zl [108,105,110,107] = [108,105,110,107] by decide +kernel];rfl
  have s3:zf [110,111,116] qa qb m = [110,111,116]:=by simp only[zf,show zl [110,111,116] = [110,111,116] by decide +kernel];rfl
  have s4:zf [97,108,108,111,119,101,100] qa qb m = [97,108,108,111,119,101,100]:=by simp only[zf,show zl [97,108,108,111,119,101,100] = [97,108,108,111,119,101,100] by decide +kernel];rfl
  have s5:zf [102,111,114] qa qb m = [102,111,114]:=by simp only[zf,show zl [102,111,114] = [102,111,114] by decide +kernel];rfl
  have s6:zf [100,105,114,101,99,116,111,114,121] qa qb m = [100,105,114,101,99,116,111,114,121]:=by simp only[zf,show zl [100,105,114,101,99,116,111,114,121] = [100,105,114,101,99,116,111,114,121] by decide +kernel];rfl
  rw[e1]
  simp only[List.map_cons,List.map_nil,s0,s1,s2,s3,s4,s5,s6]
  simp[Lib.join,List.intercalate,List.intersperse,X1]
 ·have e1:JD 32 (zQ 7) = [[102,97,105,108,101,100],[116,111],[99,114,101,97,116,101],[104,97,114,100],[108,105,110,107],[66,58],[69]]:=by decide +kernel
  have s0:zf [102,97,105,108,101,100] qa qb m = [102,97,105,108,101,100]:=by simp only[zf,show zl [102,97,105,108,101,100] = [102,97,105,108,101,100] by decide +kernel];rfl
  have s1:zf [116,111] qa qb m = [116,111]:=by simp only[zf,show zl [116,111] = [116,111] by decide +kernel];rfl
  have s2:zf [99,114,101,97,116,101] qa qb m = [99,114,101,97,116,101]:=by simp only[zf,show zl [99,114,101,97,116,101] = [99,114,101,97,116,101] by decide +kernel];rfl
  have s3:zf [104,97,114,100] qa qb m = [104,97,114,100]:=by simp only[zf,show zl [104,97,114,100] = [104,97,114,100] by decide +kernel];rfl
  have s4:zf [108,105,110,107] qa qb m = [108,105,110,107]:=by simp only[zf,show zl [108,105,110,107] = [108,105,110,107] by decide +kernel];rfl
  have s5:zf [66,58] qa qb m=qb++[58]:=by simp only[zf,show zl [66,58] = [66] by decide +kernel];rfl
  have s6:zf [69] qa qb m=m++[]:=by simp only[zf,show zl [69] = [69] by decide +kernel];rfl
  rw[e1]
  simp only[List.map_cons,List.map_nil,s0,s1,s2,s3,s4,s5,s6]
  simp[Lib.join,List.intercalate,List.intersperse,X1]
 ·have e1:JD 32 (zQ 8) = [[102,97,105,108,101,100],[116,111],[99,114,101,97,116,101],[115,121,109,98,111,108,105,99],[108,105,110,107],[66,58],[69]]:=by decide +kernel
  have s0:zf [102,97,105,108,101,100] qa qb m = [102,97,105,108,101,100]:=by simp only[zf,show zl [102,97,105,108,101,100] = [102,97,105,108,101,100] by decide +kernel];rfl
  have s1:zf [116,111] qa qb m = [116,111]:=by simp only[zf,show zl [116,111] = [116,111] by decide +kernel];rfl
  have s2:zf [99,114,101,97,116,101] qa qb m = [99,114,101,97,116,101]:=by simp only[zf,show zl [99,114,101,97,116,101] = [99,114,101,97,116,101] by decide +kernel];rfl
  have s3:zf [115,121,109,98,111,108,105,99] qa qb m = [115,121,109,98,111,108,105,99]:=by simp only[zf,show zl [115,121,109,98,111,108,105,99] = [115,121,109,98,111,108,105,99] by decide +kernel];rfl
  have s4:zf [108,105,110,107] qa qb m = [108,105,110,107]:=by simp only[zf,show zl [108,105,110,107] = [108,105,110,107] by decide +kernel];rfl
  have s5:zf [66,58] qa qb m=qb++[58]:=by simp only[zf,show zl [66,58] = [66] by decide +kernel];rfl
  have s6:zf [69] qa qb m=m++[]:=by simp only[zf,show zl [69] = [69] by decide +kernel];rfl
  rw[e1]
  simp only[List.map_cons,List.map_nil,s0,s1,s2,s3,s4,s5,s6]
  simp[Lib.join,List.intercalate,List.intersperse,X1]
 ·have e1:JD 32 (zQ 9) = [[65],[97,110,100],[66],[97,114,101],[116,104,101],[115,97,109,101],[102,105,108,101]]:=by decide +kernel
  have s0:zf [65] qa qb m=qa++[]:=by simp only[zf,show zl [65] = [65] by decide +kernel];rfl
  have s1:zf [97,110,100] qa qb m = [97,110,100]:=by simp only[zf,show zl [97,110,100] = [97,110,100] by decide +kernel];rfl
  have s2:zf [66] qa qb m=qb++[]:=by simp only[zf,show zl [66] = [66] by decide +kernel];rfl
  have s3:zf [97,114,101] qa qb m = [97,114,101]:=by simp only[zf,show zl [97,114,101] = [97,114,101] by decide +kernel];rfl
  have s4:zf [116,104,101] qa qb m = [116,104,101]:=by simp only[zf,show zl [116,104,101] = [116,104,101] by decide +kernel];rfl
  have s5:zf [115,97,109,101] qa qb m = [115,97,109,101]:=by simp only[zf,show zl [115,97,109,101] = [115,97,109,101] by decide +kernel];rfl
  have s6:zf [102,105,108,101] qa qb m = [102,105,108,101]:=by simp only[zf,show zl [102,105,108,101] = [102,105,108,101] by decide +kernel];rfl
  rw[e1]
  simp only[List.map_cons,List.map_nil,s0,s1,s2,s3,s4,s5,s6]
  simp[Lib.join,List.intercalate,List.intersperse,X1]
 ·have e1:JD 32 (zQ 10) = [[116,97,114,103,101,116],[65],[105,115],[110,111,116],[97],[100,105,114,101,99,116,111,114,121]]:=by decide +kernel
  have s0:zf [116,97,114,103,101,116] qa qb m = [116,97,114,103,101,116]:=by simp only[zf,show zl [116,97,114,103,101,116] = [116,97,114,103,101,116] by decide +kernel];rfl
  have s1:zf [65] qa qb m=qa++[]:=by simp only[zf,show zl [65] = [65] by decide +kernel];rfl
  have s2:zf [105,115] qa qb m = [105,115]:=by simp only[zf,show zl [105,115] = [105,115] by decide +kernel];rfl
  have s3:zf [110,111,116] qa qb m = [110,111,116]:=by simp only[zf,show zl [110,111,116] = [110,111,116] by decide +kernel];rfl
  have s4:zf [97] qa qb m = [97]:=by simp only[zf,show zl [97] = [97] by decide +kernel];rfl
  have s5:zf [100,105,114,101,99,116,111,114,121] qa qb m = [100,105,114,101,99,116,111,114,121]:=by simp only[zf,show zl [100,105,114,101,99,116,111,114,121] = [100,105,114,101,99,116,111,114,121] by decide +kernel];rfl
  rw[e1]
  simp only[List.map_cons,List.map_nil,s0,s1,s2,s3,s4,s5]
  simp[Lib.join,List.intercalate,List.intersperse,X1]
 ·have e1:JD 32 (zQ 11) = [[99,97,110,110,111,116],[115,116,97,116],[65,58],[69]]:=by decide +kernel
  have s0:zf [99,97,110,110,111,116] qa qb m = [99,97,110,110,111,116]:=by simp only[zf,show zl [99,97,110,110,111,116] = [99,97,110,110,111,116] by decide +kernel];rfl
  have s1:zf [115,116,97,116] qa qb m = [115,116,97,116]:=by simp only[zf,show zl [115,116,97,116] = [115,116,97,116] by decide +kernel];rfl
  have s2:zf [65,58] qa qb m=qa++[58]:=by simp only[zf,show zl [65,58] = [65] by decide +kernel];rfl
  have s3:zf [69] qa qb m=m++[]:=by simp only[zf,show zl [69] = [69] by decide +kernel];rfl
  rw[e1]
  simp only[List.map_cons,List.map_nil,s0,s1,s2,s3]
  simp[Lib.join,List.intercalate,List.intersperse,X1]
 ·have e1:JD 32 (zQ 12) = [[99,97,110,110,111,116],[111,118,101,114,119,114,105,116,101],[110,111,110,45,100,105,114,101,99,116,111,114,121],[66],[119,105,116,104],[100,105,114,101,99,116,111,114,121],[65]]:=by decide +kernel
  have s0:zf [99,97,110,110,111,116] qa qb m = [99,97,110,110,111,116]:=by simp only[zf,show zl [99,97,110,110,111,116] = [99,97,110,110,111,116] by decide +kernel];rfl
  have s1:zf [111,118,101,114,119,114,105,116,101] qa qb m = [111,118,101,114,119,114,105,116,101]:=by simp only[zf,show zl [111,118,101,114,119,114,105,116,101] = [111,118,101,114,119,114,105,116,101] by decide +kernel];rfl
  have s2:zf [110,111,110,45,100,105,114,101,99,116,111,114,121] qa qb m = [110,111,110,45,100,105,114,101,99,116,111,114,121]:=by simp only[zf,show zl [110,111,110,45,100,105,114,101,99,116,111,114,121] = [110,111,110,45,100,105,114,101,99,116,111,114,121] by decide +kernel];rfl
  have s3:zf [66] qa qb m=qb++[]:=by simp only[zf,show zl [66] = [66] by decide +kernel];rfl
  have s4:zf [119,105,116,104] qa qb m = [119,105,116,104]:=by simp only[zf,show zl [119,105,116,104] = [119,105,116,104] by decide +kernel];rfl
  have s5:zf [100,105,114,101,99,116,111,114,121] qa qb m = [100,105,114,101,99,116,111,114,121]:=by simp only[zf,show zl [100,105,114,101,99,116,111,114,121] = [100,105,114,101,99,116,111,114,121] by decide +kernel];rfl
  have s6:zf [65] qa qb m=qa++[]:=by simp only[zf,show zl [65] = [65] by decide +kernel];rfl
  rw[e1]
  simp only[List.map_cons,List.map_nil,s0,s1,s2,s3,s4,s5,s6]
  simp[Lib.join,List.intercalate,List.intersperse,X1]
 ·have e1:JD 32 (zQ 13) = [[99,97,110,110,111,116],[111,118,101,114,119,114,105,116,101],[100,105,114,101,99,116,111,114,121],[66],[119,105,116,104],[110,111,110,45,100,105,114,101,99,116,111,114,121],[65]]:=by decide +kernel
  have s0:zf [99,97,110,110,111,116] qa qb m = [99,97,110,110,111,116]:=by simp only[zf,show zl [99,97,110,110,111,116] = [99,97,110,110,111,116] by decide +kernel];rfl
  have s1:zf [111,118,101,114,119,114,105,116,101] qa qb m = [111,118,101,114,119,114,105,116,101]:=by simp only[zf,show zl [111,118,101,114,119,114,105,116,101] = [111,118,101,114,119,114,105,116,101] by decide +kernel];rfl
  have s2:zf [100,105,114,101,99,116,111,114,121] qa qb m = [100,105,114,101,99,116,111,114,121]:=by simp only[zf,show zl [100,105,114,101,99,116,111,114,121] = [100,105,114,101,99,116,111,114,121] by decide +kernel];rfl
  have s3:zf [66] qa qb m=qb++[]:=by simp only[zf,show zl [66] = [66] by decide +kernel];rfl
  have s4:zf [119,105,116,104] qa qb m = [119,105,116,104]:=by simp only[zf,show zl [119,105,116,104] = [119,105,116,104] by decide +kernel];rfl
  have s5:zf [110,111,110,45,100,105,114,101,99,116,111,114,121] qa qb m = [110,111,110,45,100,105,114,101,99,116,111,114,121]:=by simp only[zf,show zl [110,111,110,45,100,105,114,101,99,116,111,114,121] = [110,111,110,45,100,105,114,101,99,116,111,114,121] by decide +kernel];rfl
  have s6:zf [65] qa qb m=qa++[]:=by simp only[zf,show zl [65] = [65] by decide +kernel];rfl
  rw[e1]
  simp only[List.map_cons,List.map_nil,s0,s1,s2,s3,s4,s5,s6]
  simp[Lib.join,List.intercalate,List.intersperse,X1]
 ·have e1:JD 32 (zQ 14) = [[99,97,110,110,111,116],[109,111,118,101],[65],[116,111],[97],[115,117,98,100,105,114,101,99,116,111,114,121],[111,102],[105,116,115,101,108,102,44],[66]]:=by decide +kernel
  have s0:zf [99,97,110,110,111,116] qa qb m = [99,97,110,110,111,116]:=by simp only[zf,show zl [99,97,110,110,111,116] = [99,97,110,110,111,116] by decide +kernel];rfl
  have s1:zf [109,111,118,101] qa qb m = [109,111,118,101]:=by simp only[zf,show zl [109,111,118,101] = [109,111,118,101] by decide +kernel];rfl
  have s2:zf [65] qa qb m=qa++[]:=by simp only[zf,show zl [65] = [65] by decide +kernel];rfl
  have s3:zf [116,111] qa qb m = [116,111]:=by simp only[zf,show zl [116,111] = [116,111] by decide +kernel];rfl
  have s4:zf [97] qa qb m = [97]:=by simp only[zf,show zl [97] = [97] by decide +kernel];rfl
  have s5:zf [115,117,98,100,105,114,101,99,116,111,114,121] qa qb m = [115,117,98,100,105,114,101,99,116,111,114,121]:=by simp only[zf,show zl [115,117,98,100,105,114,101,99,116,111,114,121] = [115,117,98,100,105,114,101,99,116,111,114,121] by decide +kernel];rfl
  have s6:zf [111,102] qa qb m = [111,102]:=by simp only[zf,show zl [111,102] = [111,102] by decide +kernel];rfl
  have s7:zf [105,116,115,101,108,102,44] qa qb m = [105,116,115,101,108,102,44]:=by simp only[zf,show zl [105,116,115,101,108,102,44] = [105,116,115,101,108,102] by decide +kernel];rfl
  have s8:zf [66] qa qb m=qb++[]:=by simp only[zf,show zl [66] = [66] by decide +kernel];rfl
  rw[e1]
  simp only[List.map_cons,List.map_nil,s0,s1,s2,s3,s4,s5,s6,s7,s8]
  simp[Lib.join,List.intercalate,List.intersperse,X1]
 ·have e1:JD 32 (zQ 15) = [[99,97,110,110,111,116],[109,111,118,101],[65],[116,111],[66,58],[69]]:=by decide +kernel
  have s0:zf [99,97,110,110,111,116] qa qb m = [99,97,110,110,111,116]:=by simp only[zf,show zl [99,97,110,110,111,116] = [99,97,110,110,111,116] by decide +kernel];rfl
  have s1:zf [109,111,118,101] qa qb m = [109,111,118,101]:=by simp only[zf,show zl [109,111,118,101] = [109,111,118,101] by decide +kernel];rfl
  have s2:zf [65] qa qb m=qa++[]:=by simp only[zf,show zl [65] = [65] by decide +kernel];rfl
  have s3:zf [116,111] qa qb m = [116,111]:=by simp only[zf,show zl [116,111] = [116,111] by decide +kernel];rfl
  have s4:zf [66,58] qa qb m=qb++[58]:=by simp only[zf,show zl [66,58] = [66] by decide +kernel];rfl
  have s5:zf [69] qa qb m=m++[]:=by simp only[zf,show zl [69] = [69] by decide +kernel];rfl
  rw[e1]
  simp only[List.map_cons,List.map_nil,s0,s1,s2,s3,s4,s5]
  simp[Lib.join,List.intercalate,List.intersperse,X1]
 ·have e1:JD 32 (zQ 16) = [[45,114],[110,111,116],[115,112,101,99,105,102,105,101,100,59],[111,109,105,116,116,105,110,103],[100,105,114,101,99,116,111,114,121],[65]]:=by decide +kernel
  have s0:zf [45,114] qa qb m = [45,114]:=by simp only[zf,show zl [45,114] = [45,114] by decide +kernel];rfl
  have s1:zf [110,111,116] qa qb m = [110,111,116]:=by simp only[zf,show zl [110,111,116] = [110,111,116] by decide +kernel];rfl
  have s2:zf [115,112,101,99,105,102,105,101,100,59] qa qb m = [115,112,101,99,105,102,105,101,100,59]:=by simp only[zf,show zl [115,112,101,99,105,102,105,101,100,59] = [115,112,101,99,105,102,105,101,100,59] by decide +kernel];rfl
  have s3:zf [111,109,105,116,116,105,110,103] qa qb m = [111,109,105,116,116,105,110,103]:=by simp only[zf,show zl [111,109,105,116,116,105,110,103] = [111,109,105,116,116,105,110,103] by decide +kernel];rfl
  have s4:zf [100,105,114,101,99,116,111,114,121] qa qb m = [100,105,114,101,99,116,111,114,121]:=by simp only[zf,show zl [100,105,114,101,99,116,111,114,121] = [100,105,114,101,99,116,111,114,121] by decide +kernel];rfl
  have s5:zf [65] qa qb m=qa++[]:=by simp only[zf,show zl [65] = [65] by decide +kernel];rfl
  rw[e1]
  simp only[List.map_cons,List.map_nil,s0,s1,s2,s3,s4,s5]
  simp[Lib.join,List.intercalate,List.intersperse,X1]
 ·have e1:JD 32 (zQ 17) = [[99,97,110,110,111,116],[99,114,101,97,116,101],[114,101,103,117,108,97,114],[102,105,108,101],[66,58],[69]]:=by decide +kernel
  have s0:zf [99,97,110,110,111,116] qa qb m = [99,97,110,110,111,116]:=by simp only[zf,show zl [99,97,110,110,111,116] = [99,97,110,110,111,116] by decide +kernel];rfl
  have s1:zf [99,114,101,97,116,101] qa qb m = [99,114,101,97,116,101]:=by simp only[zf,show zl [99,114,101,97,116,101] = [99,114,101,97,116,101] by decide +kernel];rfl
  have s2:zf [114,101,103,117,108,97,114] qa qb m = [114,101,103,117,108,97,114]:=by simp only[zf,show zl [114,101,103,117,108,97,114] = [114,101,103,117,108,97,114] by decide +kernel];rfl
  have s3:zf [102,105,108,101] qa qb m = [102,105,108,101]:=by simp only[zf,show zl [102,105,108,101] = [102,105,108,101] by decide +kernel];rfl
  have s4:zf [66,58] qa qb m=qb++[58]:=by simp only[zf,show zl [66,58] = [66] by decide +kernel];rfl
  have s5:zf [69] qa qb m=m++[]:=by simp only[zf,show zl [69] = [69] by decide +kernel];rfl
  rw[e1]
  simp only[List.map_cons,List.map_nil,s0,s1,s2,s3,s4,s5]
  simp[Lib.join,List.intercalate,List.intersperse,X1]
 ·have e1:JD 32 (zQ 18) = [[99,97,110,110,111,116],[99,114,101,97,116,101],[115,121,109,98,111,108,105,99],[108,105,110,107],[66,58],[69]]:=by decide +kernel
  have s0:zf [99,97,110,110,111,116] qa qb m = [99,97,110,110,111,116]:=by simp only[zf,show zl [99,97,110,110,111,116] = [99,97,110,110,111,116] by decide +kernel];rfl
  have s1:zf [99,114,101,97,116,101] qa qb m = [99,114,101,97,116,101]:=by simp only[zf,show zl [99,114,101,97,116,101] = [99,114,101,97,116,101] by decide +kernel];rfl
  have s2:zf [115,121,109,98,111,108,105,99] qa qb m = [115,121,109,98,111,108,105,99]:=by simp only[zf,show zl [115,121,109,98,111,108,105,99] = [115,121,109,98,111,108,105,99] by decide +kernel];rfl
  have s3:zf [108,105,110,107] qa qb m = [108,105,110,107]:=by simp only[zf,show zl [108,105,110,107] = [108,105,110,107] by decide +kernel];rfl
  have s4:zf [66,58] qa qb m=qb++[58]:=by simp only[zf,show zl [66,58] = [66] by decide +kernel];rfl
  have s5:zf [69] qa qb m=m++[]:=by simp only[zf,show zl [69] = [69] by decide +kernel];rfl
  rw[e1]
  simp only[List.map_cons,List.map_nil,s0,s1,s2,s3,s4,s5]
  simp[Lib.join,List.intercalate,List.intersperse,X1]
 ·have e1:JD 32 (zQ 19) = [[99,97,110,110,111,116],[99,111,112,121],[97],[100,105,114,101,99,116,111,114,121,44],[65,44],[105,110,116,111],[105,116,115,101,108,102,44],[66]]:=by decide +kernel
  have s0:zf [99,97,110,110,111,116] qa qb m = [99,97,110,110,111,116]:=by simp only[zf,show zl [99,97,110,110,111,116] = [99,97,110,110,111,116] by decide +kernel];rfl
  have s1:zf [99,111,112,121] qa qb m = [99,111,112,121]:=by simp only[zf,show zl [99,111,112,121] = [99,111,112,121] by decide +kernel];rfl
  have s2:zf [97] qa qb m = [97]:=by simp only[zf,show zl [97] = [97] by decide +kernel];rfl
  have s3:zf [100,105,114,101,99,116,111,114,121,44] qa qb m = [100,105,114,101,99,116,111,114,121,44]:=by simp only[zf,show zl [100,105,114,101,99,116,111,114,121,44] = [100,105,114,101,99,116,111,114,121] by decide +kernel];rfl
  have s4:zf [65,44] qa qb m=qa++[44]:=by simp only[zf,show zl [65,44] = [65] by decide +kernel];rfl
  have s5:zf [105,110,116,111] qa qb m = [105,110,116,111]:=by simp only[zf,show zl [105,110,116,111] = [105,110,116,111] by decide +kernel];rfl
  have s6:zf [105,116,115,101,108,102,44] qa qb m = [105,116,115,101,108,102,44]:=by simp only[zf,show zl [105,116,115,101,108,102,44] = [105,116,115,101,108,102] by decide +kernel];rfl
  have s7:zf [66] qa qb m=qb++[]:=by simp only[zf,show zl [66] = [66] by decide +kernel];rfl
  rw[e1]
  simp only[List.map_cons,List.map_nil,s0,s1,s2,s3,s4,s5,s6,s7]
  simp[Lib.join,List.intercalate,List.intersperse,X1]
 ·have e1:JD 32 (zQ 20) = [[110,111,116],[119,114,105,116,105,110,103],[116,104,114,111,117,103,104],[100,97,110,103,108,105,110,103],[115,121,109,108,105,110,107],[66]]:=by decide +kernel
  have s0:zf [110,111,116] qa qb m = [110,111,116]:=by simp only[zf,show zl [110,111,116] = [110,111,116] by decide +kernel];rfl
  have s1:zf [119,114,105,116,105,110,103] qa qb m = [119,114,105,116,105,110,103]:=by simp only[zf,show zl [119,114,105,116,105,110,103] = [119,114,105,116,105,110,103] by decide +kernel];rfl
  have s2:zf [116,104,114,111,117,103,104] qa qb m = [116,104,114,111,117,103,104]:=by simp only[zf,show zl [116,104,114,111,117,103,104] = [116,104,114,111,117,103,104] by decide +kernel];rfl
  have s3:zf [100,97,110,103,108,105,110,103] qa qb m = [100,97,110,103,108,105,110,103]:=by simp only[zf,show zl [100,97,110,103,108,105,110,103] = [100,97,110,103,108,105,110,103] by decide +kernel];rfl
  have s4:zf [115,121,109,108,105,110,107] qa qb m = [115,121,109,108,105,110,107]:=by simp only[zf,show zl [115,121,109,108,105,110,107] = [115,121,109,108,105,110,107] by decide +kernel];rfl
  have s5:zf [66] qa qb m=qb++[]:=by simp only[zf,show zl [66] = [66] by decide +kernel];rfl
  rw[e1]
  simp only[List.map_cons,List.map_nil,s0,s1,s2,s3,s4,s5]
  simp[Lib.join,List.intercalate,List.intersperse,X1]
 ·have e1:JD 32 (zQ 21) = [[101,114,114,111,114],[119,114,105,116,105,110,103],[66,58],[69]]:=by decide +kernel
  have s0:zf [101,114,114,111,114] qa qb m = [101,114,114,111,114]:=by simp only[zf,show zl [101,114,114,111,114] = [101,114,114,111,114] by decide +kernel];rfl
  have s1:zf [119,114,105,116,105,110,103] qa qb m = [119,114,105,116,105,110,103]:=by simp only[zf,show zl [119,114,105,116,105,110,103] = [119,114,105,116,105,110,103] by decide +kernel];rfl
  have s2:zf [66,58] qa qb m=qb++[58]:=by simp only[zf,show zl [66,58] = [66] by decide +kernel];rfl
  have s3:zf [69] qa qb m=m++[]:=by simp only[zf,show zl [69] = [69] by decide +kernel];rfl
  rw[e1]
  simp only[List.map_cons,List.map_nil,s0,s1,s2,s3]
  simp[Lib.join,List.intercalate,List.intersperse,X1]
 ·have e1:JD 32 (zQ 22) = [[99,97,110,110,111,116],[99,114,101,97,116,101],[100,105,114,101,99,116,111,114,121],[66,58],[69]]:=by decide +kernel
  have s0:zf [99,97,110,110,111,116] qa qb m = [99,97,110,110,111,116]:=by simp only[zf,show zl [99,97,110,110,111,116] = [99,97,110,110,111,116] by decide +kernel];rfl
  have s1:zf [99,114,101,97,116,101] qa qb m = [99,114,101,97,116,101]:=by simp only[zf,show zl [99,114,101,97,116,101] = [99,114,101,97,116,101] by decide +kernel];rfl
  have s2:zf [100,105,114,101,99,116,111,114,121] qa qb m = [100,105,114,101,99,116,111,114,121]:=by simp only[zf,show zl [100,105,114,101,99,116,111,114,121] = [100,105,114,101,99,116,111,114,121] by decide +kernel];rfl
  have s3:zf [66,58] qa qb m=qb++[58]:=by simp only[zf,show zl [66,58] = [66] by decide +kernel];rfl
  have s4:zf [69] qa qb m=m++[]:=by simp only[zf,show zl [69] = [69] by decide +kernel];rfl
  rw[e1]
  simp only[List.map_cons,List.map_nil,s0,s1,s2,s3,s4]
  simp[Lib.join,List.intercalate,List.intersperse,X1]
theorem N9 (f:List UInt8->List UInt8) (n:Nat):∀ xs:List (List UInt8),(∀ x∈xs,(f x).length<=n)->((xs.map f).map fun x=>x.length+1).sum<=xs.length*(n+1)
 | [],_=>by simp
 | x :: r,h=>by
  have ih:=N9 f n r fun y hy=>h y (List.mem_cons_of_mem _ hy)
  have:=h x List.mem_cons_self
  simp only[List.map_cons,List.sum_cons,List.length_cons,Nat.add_mul]
  omega
theorem zbu (xs:List (List UInt8)) (sep:List UInt8) (n:Nat) (hs:sep.length<=1) (h:(xs.map fun x=>x.length+1).sum<=n):(Lib.join xs sep).length<=n:=by
 have key:∀ xs:List (List UInt8),(Lib.join xs sep).length<=(xs.map fun x=>x.length+1).sum:=by
  intro xs
  match xs with
  | []=>simp[Lib.join]
  | [x]=>simp[Lib.join_one]
  | x :: y :: r =>
   have ih:∀ (zs:List (List UInt8)) (z:List UInt8),(Lib.join (z :: zs) sep).length<=((z :: zs).map fun x=>x.length+1).sum:=by
    intro zs
    induction zs with
    | nil=>intro z;simp[Lib.join_one]
    | cons u t iht =>
     intro z
     rw[Jb]
     have:=iht u
     simp only[List.length_append,List.map_cons,List.sum_cons]at this ⊢
     omega
   exact ih (y :: r) x
 exact Nat.le_trans (key xs) h
def Xo (k w:Int) (a b:List UInt8) (e:Int):List UInt8:=
 if X3 k = [] then [] else if zQ w = [] then [] else X3 k++[58,32]++X1 w (qB a) (qB b) (Ub e)
theorem Mj (k:Int):(X3 k).length<=10:=by
 have key:∀ (c:Prop) [Decidable c] (x y:List UInt8),x.length<=10->y.length<=10->(if c then x else y).length<=10:=fun c _ x y hx hy=>by
  by_cases h:c
  ·rw[if_pos h];exact hx
  ·rw[if_neg h];exact hy
 unfold X3
 repeat' (first | decide | refine key _ _ _ (by decide) ?_)
theorem zg7 (k w:Int) (a b:List UInt8) (e:Int) (ha:a.length<=1000) (hb:b.length<=1000):Fun Tryz.prog G2 60 [.sc (.int .i64 k),.sc (.int .i64 w),.str a,.str b,.sc (.int .i64 e)] (.str (Xo k w a b e)) 0:=by
 have h1:=No k
 have h2:=u9 w
 have hnl:=Mj k
 by_cases hn:X3 k = []
 ·rw[hn]at h1
  refine Fun.of (fun _=>[]) Tryz.func60 rfl (zi rfl) (by kernel_rfl) ?_;dsimp only[Tryz.f60]
  push_cast -dsimp
  refine cl (h1) ?_;push_cast -dsimp
  refine cl (h2) ?_;push_cast -dsimp
  exact ⟨[],rfl,rfl,by push_cast -dsimp [zb,za,CLe,zd]<;>simp[Xo,hn]⟩
 by_cases hp:zQ w = []
 ·rw[hp]at h2
  refine Fun.of (fun _=>[]) Tryz.func60 rfl (zi rfl) (by kernel_rfl) ?_;dsimp only[Tryz.f60]
  push_cast -dsimp
  refine cl (h1) ?_;push_cast -dsimp
  refine cl (h2) ?_;push_cast -dsimp [hn]
  exact ⟨[],rfl,rfl,by push_cast -dsimp [zb,za,CLe,zd]<;>simp[Xo,hn,hp]⟩
 obtain ⟨hws,hpl⟩:(∀ x∈JD 32 (zQ w),x≠[]/\x.length<=100)/\(zQ w).length<=100:=(Nq w).resolve_left hp
 have hin:1<=w/\w<=22:=Classical.byContradiction fun h=>hp (Qd w h)
 have hpw:=hp
 have hsay:=zf3 w (qB a) (qB b) (Ub e) hin
 have hsl:=xv 32 (zQ w)
 have hsum:=N9 (fun x=>zf x (qB a) (qB b) (Ub e)) 5100 (JD 32 (zQ w)) fun x hx=>by
  have:=zcv x a b e ha hb
  have:=(hws x hx).2
  omega
 have hjl:=zbu ((JD 32 (zQ w)).map fun x=>zf x (qB a) (qB b) (Ub e)) [32] 600000 (by decide) (by
  have:(JD 32 (zQ w)).length*(5100+1)<=101*5101:=Nat.mul_le_mul_right _ (by omega)
  omega)
 have hit:=N7 32 (zQ w) (by omega)
 generalize zQ w=P at h2 hp hws hpl hsay hsl hsum hjl hit
 rw[hsay]at hjl
 refine Fun.of (fun i=>if i=7 then [false,false,false,false,false,false,false,true,true] else []) Tryz.func60 rfl (zi rfl) (by kernel_rfl) ?_;dsimp only[Tryz.f60]
 push_cast -dsimp
 refine cl (h1) ?_;push_cast -dsimp
 refine cl (h2) ?_;push_cast -dsimp [hn,hp]
 refine x4 [] [] ((GG 32 P).glob0) rfl (by simp) (by simp) (fun i hi=>by cases hi) (by push_cast -dsimp) rfl ?_
 push_cast -dsimp
 refine range (qZ (JD 32 P)) (fun _=>false) 4 (fun j=>⟨[],[[.str a],[.str b],[.sc (.int .i64 e)],[.own 0 9 1 (qZ (((JD 32 P).take j).map fun x=>zf x (qB a) (qB b) (Ub e)))]],1,0⟩) hit.glob0 (by push_cast -dsimp) (by push_cast -dsimp) (by push_cast -dsimp) (Nat.zero_le _) (by push_cast -dsimp) (fun it h=>?_) (fun j _=>rfl) ?_ (fun j it hj hsf=>?_) (fun hsf=>?_)
 ·obtain ⟨x,_,rfl⟩:=List.mem_map.1 h;rfl
 ·exact zH.mk [.inr (9,1)] rfl rfl (Nat.le_refl _) rfl (by push_cast -dsimp [zb,za,CLe,zd]) (by push_cast -dsimp [zb,za,CLe,zd])
 ·obtain ⟨x,hx,rfl⟩:=GP hj
  have hjl2:j<(JD 32 P).length:=(List.getElem?_eq_some_iff.1 hx).1
  have hxw:=hws x (List.mem_of_getElem? hx)
  have hs1:=zhF x a b e hxw.1 (by omega) ha hb
  push_cast -dsimp
  refine cl (hs1) ?_;push_cast -dsimp
  (try simp only[lS]);repeat refine And.intro (by omega) ?_
  refine zH.mk [.inl 0] rfl rfl (Nat.le_refl _) rfl (by push_cast -dsimp [zb,za,CLe,zd]) ?_
  push_cast -dsimp [zb,za,CLe,zd]
  rw[List.take_add_one,hx]
  simp
 ·have htk:(JD 32 P).take (JD 32 P).length=JD 32 P:=List.take_length
  have j1:=((HU ((JD 32 P).map fun x=>zf x (qB a) (qB b) (Ub e)) [32] (by rw[List.length_map];omega) (by rw[hsay];omega)).res (congrArg C.str hsay)).glob0 (G':=G2)
  have j2:=((zgo [X3 k,X1 w (qB a) (qB b) (Ub e)] (by simp) (by rw[Jb,Lib.join_one];simp only[List.length_append,List.length_cons,List.length_nil];omega)).res (congrArg C.str (show _=Xo k w a b e by rw[Jb,Lib.join_one,Xo,if_neg hn,if_neg hpw]))).glob0 (G':=G2)
  push_cast -dsimp [htk]
  refine cl (j1) ?_;push_cast -dsimp
  refine cl (j2) ?_;push_cast -dsimp
  exact ⟨[],rfl,rfl,by push_cast -dsimp [zb,za,CLe,zd]⟩
end
section
open CA CB
open Go.RowKit QuotePlain
theorem xG (k:Int) (h:1<=k/\k<=22):zQ k≠[]:=by
 have hc:k=1∨k=2∨k=3∨k=4∨k=5∨k=6∨k=7∨k=8∨k=9∨k=10∨k=11∨k=12∨k=13∨k=14∨k=15∨k=16∨k=17∨k=18∨k=19∨k=20∨k=21∨k=22:=by omega
 clear h
 rcases hc with rfl | rfl | rfl | rfl | rfl | rfl | rfl | rfl | rfl | rfl | rfl | rfl | rfl | rfl | rfl | rfl | rfl | rfl | rfl | rfl | rfl | rfl<;>decide +kernel
theorem zhO (k:Int) (qa qb m:List UInt8) (h:1<=k/\k<=22):X1 k qa qb m≠[]:=by
 have hc:k=1∨k=2∨k=3∨k=4∨k=5∨k=6∨k=7∨k=8∨k=9∨k=10∨k=11∨k=12∨k=13∨k=14∨k=15∨k=16∨k=17∨k=18∨k=19∨k=20∨k=21∨k=22:=by omega
 clear h
 rcases hc with rfl | rfl | rfl | rfl | rfl | rfl | rfl | rfl | rfl | rfl | rfl | rfl | rfl | rfl | rfl | rfl | rfl | rfl | rfl | rfl | rfl | rfl<;>simp[X1]
theorem zko (k:Int) (qa qb m:List UInt8):(X1 k qa qb m).length<=qa.length+qb.length+m.length+100:=by
 by_cases h:1<=k/\k<=22
 ·have hc:k=1∨k=2∨k=3∨k=4∨k=5∨k=6∨k=7∨k=8∨k=9∨k=10∨k=11∨k=12∨k=13∨k=14∨k=15∨k=16∨k=17∨k=18∨k=19∨k=20∨k=21∨k=22:=by omega
  clear h
  rcases hc with rfl | rfl | rfl | rfl | rfl | rfl | rfl | rfl | rfl | rfl | rfl | rfl | rfl | rfl | rfl | rfl | rfl | rfl | rfl | rfl | rfl | rfl<;>simp only[X1,if_true,if_false,Int.reduceEq,List.length_append,List.length_cons,List.length_nil]<;>omega
 ·rw[GC k _ _ _ h];simp
theorem zgL (k:Int) (qa qb m:List UInt8) (ha:qa.length<=100000) (hb:qb.length<=100000) (hm:m.length<=100000):Fun Tryz.prog G0 109 [.sc (.int .i64 k),.str qa,.str qb,.str m] (.str (X1 k qa qb m)) 0:=by
 by_cases h:1<=k/\k<=22
 ·have hc:k=1∨k=2∨k=3∨k=4∨k=5∨k=6∨k=7∨k=8∨k=9∨k=10∨k=11∨k=12∨k=13∨k=14∨k=15∨k=16∨k=17∨k=18∨k=19∨k=20∨k=21∨k=22:=by omega
  clear h
  rcases hc with rfl | rfl | rfl | rfl | rfl | rfl | rfl | rfl | rfl | rfl | rfl | rfl | rfl | rfl | rfl | rfl | rfl | rfl | rfl | rfl | rfl | rfl
  all_goals
   refine Fun.of (fun _=>[]) Tryz.func109 rfl (zi rfl) (by kernel_rfl) ?_;dsimp only[Tryz.f109]
   push_cast -dsimp
   (try simp only[lS]);repeat refine And.intro (by omega) ?_
   exact ⟨[],rfl,rfl,by simp only[X1];push_cast -dsimp [zb,za,CLe,zd]<;>simp⟩
 ·have hn:=GC k qa qb m h
  have n1:¬k=1:=by omega
  have n2:¬k=2:=by omega
  have n3:¬k=3:=by omega
  have n4:¬k=4:=by omega
  have n5:¬k=5:=by omega
  have n6:¬k=6:=by omega
  have n7:¬k=7:=by omega
  have n8:¬k=8:=by omega
  have n9:¬k=9:=by omega
  have n10:¬k=10:=by omega
  have n11:¬k=11:=by omega
  have n12:¬k=12:=by omega
  have n13:¬k=13:=by omega
  have n14:¬k=14:=by omega
  have n15:¬k=15:=by omega
  have n16:¬k=16:=by omega
  have n17:¬k=17:=by omega
  have n18:¬k=18:=by omega
  have n19:¬k=19:=by omega
  have n20:¬k=20:=by omega
  have n21:¬k=21:=by omega
  have n22:¬k=22:=by omega
  refine Fun.of (fun _=>[]) Tryz.func109 rfl (zi rfl) (by kernel_rfl) ?_;dsimp only[Tryz.f109]
  push_cast -dsimp [n1,n2,n3,n4,n5,n6,n7,n8,n9,n10,n11,n12,n13,n14,n15,n16,n17,n18,n19,n20,n21,n22]
  exact ⟨[],rfl,rfl,by push_cast -dsimp [zb,za,CLe,zd]<;>simp[hn]⟩
theorem ze1 (k w:Int) (a b:List UInt8) (e:Int) (ha:a.length<=1000) (hb:b.length<=1000):Fun Tryz.prog G0 66 [.sc (.int .i64 k),.sc (.int .i64 w),.str a,.str b,.sc (.int .i64 e)] (.str (Xo k w a b e)) 0:=by
 have l1:=JQ a
 have l2:=JQ b
 have l3:=Gf e
 have l4:=zko w (qB a) (qB b) (Ub e)
 have l5:=Mj k
 have h1:=zdR k
 have h2:=ky a (by omega)
 have h3:=ky b (by omega)
 have h4:=Mi e
 have h5:=zgL w (qB a) (qB b) (Ub e) (by omega) (by omega) (by omega)
 by_cases hw:1<=w/\w<=22
 ·have hp:=xG w hw
  have hs:=zhO w (qB a) (qB b) (Ub e) hw
  by_cases hn:X3 k = []
  ·rw[hn]at h1
   refine Fun.of (fun _=>[]) Tryz.func66 rfl (zi rfl) (by kernel_rfl) ?_;dsimp only[Tryz.f66]
   push_cast -dsimp
   refine cl (h1) ?_;push_cast -dsimp
   refine cl (h2) ?_;push_cast -dsimp
   refine cl (h3) ?_;push_cast -dsimp
   refine cl (h4) ?_;push_cast -dsimp
   refine cl (h5) ?_;push_cast -dsimp
   exact ⟨[],rfl,rfl,by push_cast -dsimp [zb,za,CLe,zd]<;>simp[Xo,hn]⟩
  ·refine Fun.of (fun _=>[]) Tryz.func66 rfl (zi rfl) (by kernel_rfl) ?_;dsimp only[Tryz.f66]
   push_cast -dsimp
   refine cl (h1) ?_;push_cast -dsimp
   refine cl (h2) ?_;push_cast -dsimp
   refine cl (h3) ?_;push_cast -dsimp
   refine cl (h4) ?_;push_cast -dsimp
   refine cl (h5) ?_;push_cast -dsimp [hn,hs]
   (try simp only[lS]);repeat refine And.intro (by omega) ?_
   exact ⟨[],rfl,rfl,by push_cast -dsimp [zb,za,CLe,zd]<;>simp[Xo,hn,hp]⟩
 ·have hp:=Qd w hw
  have hs:=GC w (qB a) (qB b) (Ub e) hw
  rw[hs]at h5
  by_cases hn:X3 k = []
  ·rw[hn]at h1
   refine Fun.of (fun _=>[]) Tryz.func66 rfl (zi rfl) (by kernel_rfl) ?_;dsimp only[Tryz.f66]
   push_cast -dsimp
   refine cl (h1) ?_;push_cast -dsimp
   refine cl (h2) ?_;push_cast -dsimp
   refine cl (h3) ?_;push_cast -dsimp
   refine cl (h4) ?_;push_cast -dsimp
   refine cl (h5) ?_;push_cast -dsimp
   exact ⟨[],rfl,rfl,by push_cast -dsimp [zb,za,CLe,zd]<;>simp[Xo,hn]⟩
  ·refine Fun.of (fun _=>[]) Tryz.func66 rfl (zi rfl) (by kernel_rfl) ?_;dsimp only[Tryz.f66]
   push_cast -dsimp
   refine cl (h1) ?_;push_cast -dsimp
   refine cl (h2) ?_;push_cast -dsimp
   refine cl (h3) ?_;push_cast -dsimp
   refine cl (h4) ?_;push_cast -dsimp
   refine cl (h5) ?_;push_cast -dsimp [hn]
   exact ⟨[],rfl,rfl,by push_cast -dsimp [zb,za,CLe,zd]<;>simp[Xo,hn,hp]⟩
end
section
open CA CB
open Go.RowKit
def GD:zm:=fun g=>if g=0 then G1 g else G2 g
theorem zqc (g:Nat) (cs:List C) (h:G1 g=some cs):GD g=some cs:=by
 unfold GD
 by_cases hg:g=0
 ·rw[if_pos hg];exact h
 ·unfold G1 at h
  rw[if_neg hg]at h
  cases h
theorem zqA (g:Nat) (cs:List C) (h:G2 g=some cs):GD g=some cs:=by
 unfold GD
 by_cases hg:g=0
 ·subst hg
  have q:G2 0=none:=rfl
  rw[q]at h;cases h
 ·rw[if_neg hg];exact h
theorem Fun.gd1 {f:FuncId} {args:List C} {r:C} {n:Nat} (h:Fun Tryz.prog G1 f args r n):Fun Tryz.prog GD f args r n:=h.glob zqc
theorem Fun.gd2 {f:FuncId} {args:List C} {r:C} {n:Nat} (h:Fun Tryz.prog G2 f args r n):Fun Tryz.prog GD f args r n:=h.glob zqA
abbrev zmI (d:jo) (ops diags:C):C:=.agg [.sc (.int .i64 d.w.fs.maxI),.sc (.int .i64 d.w.fs.maxB),.sc (.int .i64 d.w.fs.next),.sl 6 (zp d.w.fs.xs),.sl 4 (zE d.w.kept),.sl 6 (zp d.w.pool),ops,diags,.sc (.int .i64 d.status),.sc (.int .i64 d.slot)]
structure QR (d:jo):Prop where
 wi:Xc d.w
 ws:Vx d.w
 ops:d.ops.length<=80000
 diags:d.diags.length<=80000
 slot:0<=d.slot/\d.slot<=4000000000000000000
theorem zdM (d:jo) (hd:QR d) (o:OpV) (ho:short o) (hl:o.d.length<=10000) (hne:(Yj d o).2≠0) (oc dc:C) (hoc:oc = .sl 5 (d.ops.map opL)) (hdc:dc = .sl 1 (qZ d.diags)):Fun Tryz.prog GD 25 [zmI d oc dc,.agg (opL o)] (.tup [zmI d oc dc,.sc (.int .i64 (Yj d o).2)]) 0:=by
 subst hoc hdc
 obtain ⟨k,s,a,b,t⟩:=o
 have hsl:=Z6 (G:=GD) ⟨k,0,a,b,t⟩
 have hb1:=hd.slot.1
 have hb2:=hd.slot.2
 by_cases hk:k=3∨k=7
 ·have e:YP d ⟨k,s,a,b,t⟩=⟨k,d.slot+1,a,b,t⟩:=by unfold YP;rw[if_pos hk]
  rw[decide_eq_true hk]at hsl
  have hk7:(7<k)=False:=eq_false (by omega)
  have hdo:=(vf d.w hd.wi hd.ws ⟨k,d.slot+1,a,b,t⟩ ho hl (show k<=7 by omega)).gd1
  have ea:Yj d ⟨k,s,a,b,t⟩=if (doV d.w ⟨k,d.slot+1,a,b,t⟩).2≠0 then (d,(doV d.w ⟨k,d.slot+1,a,b,t⟩).2) else (⟨(doV d.w ⟨k,d.slot+1,a,b,t⟩).1,d.ops++[⟨k,d.slot+1,a,b,t⟩],d.diags,d.status,if 0<d.slot+1 then d.slot+1 else d.slot⟩,0):=by
   unfold Yj;rw[if_neg (show ¬7<k by omega),e]
  by_cases hz:(doV d.w ⟨k,d.slot+1,a,b,t⟩).2=0
  ·rw[ea,if_neg (fun h=>h hz)]at hne;exact absurd rfl hne
  ·rw[ea,if_pos hz]
   have hz':=eq_false hz
   unfold opL at hsl hdo ⊢
   refine Fun.of (fun _=>[]) Tryz.func25 rfl (zi rfl) (by kernel_rfl) ?_;dsimp only[Tryz.f25]
   push_cast -dsimp
   refine cl (hsl) ?_;push_cast -dsimp
   (try simp only[lS]);repeat refine And.intro (by omega) ?_
   push_cast -dsimp [hk7]
   refine cl (hdo) ?_;push_cast -dsimp [hz']
   exact ⟨[],rfl,rfl,by push_cast -dsimp [zb,za,CLe,zd]⟩
 ·have e:YP d ⟨k,s,a,b,t⟩=⟨k,0,a,b,t⟩:=by unfold YP;rw[if_neg hk]
  rw[decide_eq_false hk]at hsl
  by_cases hk7:7<k
  ·have ea:Yj d ⟨k,s,a,b,t⟩=(d,12):=by unfold Yj;rw[if_pos hk7]
   rw[ea]
   have hk7':=eq_true hk7
   unfold opL at hsl ⊢
   refine Fun.of (fun _=>[]) Tryz.func25 rfl (zi rfl) (by kernel_rfl) ?_;dsimp only[Tryz.f25]
   push_cast -dsimp
   refine cl (hsl) ?_;push_cast -dsimp [hk7']
   exact ⟨[],rfl,rfl,by push_cast -dsimp [zb,za,CLe,zd]⟩
  ·have hdo:=(vf d.w hd.wi hd.ws ⟨k,0,a,b,t⟩ ho hl (show k<=7 by omega)).gd1
   have ea:Yj d ⟨k,s,a,b,t⟩=if (doV d.w ⟨k,0,a,b,t⟩).2≠0 then (d,(doV d.w ⟨k,0,a,b,t⟩).2) else (⟨(doV d.w ⟨k,0,a,b,t⟩).1,d.ops++[⟨k,0,a,b,t⟩],d.diags,d.status,if (0:Int)<0 then 0 else d.slot⟩,0):=by
    unfold Yj;rw[if_neg hk7,e]
   by_cases hz:(doV d.w ⟨k,0,a,b,t⟩).2=0
   ·rw[ea,if_neg (fun h=>h hz)]at hne;exact absurd rfl hne
   ·rw[ea,if_pos hz]
    have hz':=eq_false hz
    have hk7':=eq_false hk7
    unfold opL at hsl hdo ⊢
    refine Fun.of (fun _=>[]) Tryz.func25 rfl (zi rfl) (by kernel_rfl) ?_;dsimp only[Tryz.f25]
    push_cast -dsimp
    refine cl (hsl) ?_;push_cast -dsimp [hk7']
    refine cl (hdo) ?_;push_cast -dsimp [hz']
    exact ⟨[],rfl,rfl,by push_cast -dsimp [zb,za,CLe,zd]⟩
theorem GF (d:jo) (hd:QR d) (o:OpV) (ho:short o) (hl:o.d.length<=10000) (hne:(Yj d o).2=0):Fun Tryz.prog GD 25 [zar d,.agg (opL o)] (.tup [zmI (Yj d o).1 (.own 0 63 5 ((Yj d o).1.ops.map opL)) (.sl 1 (qZ (Yj d o).1.diags)),.sc (.int .i64 0)]) 1:=by
 obtain ⟨k,s,a,b,t⟩:=o
 have hsl:=Z6 (G:=GD) ⟨k,0,a,b,t⟩
 have hb1:=hd.slot.1
 have hb2:=hd.slot.2
 have hopl:(d.ops.map opL).length=d.ops.length:=List.length_map ..
 have hol:=hd.ops
 have hka:∀ r∈d.ops.map opL,r.length=5:=fun r hr=>by obtain ⟨x,_,rfl⟩:=List.mem_map.1 hr;rfl
 have hsa:jq (d.ops.map opL):=fun r hr=>by obtain ⟨x,_,rfl⟩:=List.mem_map.1 hr;rfl
 have hkb:∀ v:Int,∀ r∈[opL ⟨k,v,a,b,t⟩],r.length=5:=fun v r hr=>by rw[List.mem_singleton.1 hr];rfl
 have hsb:∀ v:Int,jq [opL ⟨k,v,a,b,t⟩]:=fun v r hr=>by rw[List.mem_singleton.1 hr];rfl
 have hcc:=fun v:Int=>xN (G:=GD) (d.ops.map opL) [opL ⟨k,v,a,b,t⟩] hka (hkb v) hsa (hsb v) (by omega) (by simp) (by simp)
 by_cases hk:k=3∨k=7
 ·have e:YP d ⟨k,s,a,b,t⟩=⟨k,d.slot+1,a,b,t⟩:=by unfold YP;rw[if_pos hk]
  rw[decide_eq_true hk]at hsl
  have hk7:(7<k)=False:=eq_false (by omega)
  have hdo:=(vf d.w hd.wi hd.ws ⟨k,d.slot+1,a,b,t⟩ ho hl (show k<=7 by omega)).gd1
  have ea:Yj d ⟨k,s,a,b,t⟩=if (doV d.w ⟨k,d.slot+1,a,b,t⟩).2≠0 then (d,(doV d.w ⟨k,d.slot+1,a,b,t⟩).2) else (⟨(doV d.w ⟨k,d.slot+1,a,b,t⟩).1,d.ops++[⟨k,d.slot+1,a,b,t⟩],d.diags,d.status,if 0<d.slot+1 then d.slot+1 else d.slot⟩,0):=by
   unfold Yj;rw[if_neg (show ¬7<k by omega),e]
  by_cases hz:(doV d.w ⟨k,d.slot+1,a,b,t⟩).2=0
  ·rw[ea,if_neg (fun h=>h hz),if_pos (show 0<d.slot+1 by omega)]
   rw[hz]at hdo
   have hmx:(if d.slot+1>d.slot then d.slot+1 else d.slot)=d.slot+1:=if_pos (by omega)
   have hc:=hcc (d.slot+1)
   unfold opL at hsl hdo hc ⊢
   refine Fun.of (fun _=>[]) Tryz.func25 rfl (zi rfl) (by kernel_rfl) ?_;dsimp only[Tryz.f25]
   push_cast -dsimp
   refine cl (hsl) ?_;push_cast -dsimp
   (try simp only[lS]);repeat refine And.intro (by omega) ?_
   push_cast -dsimp [hk7]
   refine cl (hdo) ?_;push_cast -dsimp
   refine cl (hc) ?_;push_cast -dsimp [hmx]
   exact ⟨[.inl 2],rfl,rfl,by push_cast -dsimp [zb,za,CLe,zd,List.map_append]⟩
  ·rw[ea,if_pos hz]at hne;exact absurd hne hz
 ·have e:YP d ⟨k,s,a,b,t⟩=⟨k,0,a,b,t⟩:=by unfold YP;rw[if_neg hk]
  rw[decide_eq_false hk]at hsl
  by_cases hk7:7<k
  ·have ea:Yj d ⟨k,s,a,b,t⟩=(d,12):=by unfold Yj;rw[if_pos hk7]
   rw[ea]at hne;exact absurd hne (show ¬(12:Int)=0 by decide)
  ·have hdo:=(vf d.w hd.wi hd.ws ⟨k,0,a,b,t⟩ ho hl (show k<=7 by omega)).gd1
   have ea:Yj d ⟨k,s,a,b,t⟩=if (doV d.w ⟨k,0,a,b,t⟩).2≠0 then (d,(doV d.w ⟨k,0,a,b,t⟩).2) else (⟨(doV d.w ⟨k,0,a,b,t⟩).1,d.ops++[⟨k,0,a,b,t⟩],d.diags,d.status,if (0:Int)<0 then 0 else d.slot⟩,0):=by
    unfold Yj;rw[if_neg hk7,e]
   by_cases hz:(doV d.w ⟨k,0,a,b,t⟩).2=0
   ·rw[ea,if_neg (fun h=>h hz),if_neg (show ¬(0:Int)<0 by omega)]
    rw[hz]at hdo
    have hmx:(if 0>d.slot then 0 else d.slot)=d.slot:=if_neg (by omega)
    have hk7':=eq_false hk7
    have hc:=hcc 0
    unfold opL at hsl hdo hc ⊢
    refine Fun.of (fun _=>[]) Tryz.func25 rfl (zi rfl) (by kernel_rfl) ?_;dsimp only[Tryz.f25]
    push_cast -dsimp
    refine cl (hsl) ?_;push_cast -dsimp [hk7']
    refine cl (hdo) ?_;push_cast -dsimp
    refine cl (hc) ?_;push_cast -dsimp [hmx]
    exact ⟨[.inl 2],rfl,rfl,by push_cast -dsimp [zb,za,CLe,zd,List.map_append]⟩
   ·rw[ea,if_pos hz]at hne;exact absurd hne hz
def ZS (d:jo) (x:List UInt8):jo:={ d with diags:=d.diags++[x],status:=1 }
theorem Np (d:jo) (hd:d.diags.length<=80000) (k w:Int) (a b:List UInt8) (e:Int) (ha:a.length<=1000) (hb:b.length<=1000) :
  Fun Tryz.prog GD 26 [zar d,.sc (.int .i64 k),.sc (.int .i64 w),.str a,.str b,.sc (.int .i64 e)] (zmI (ZS d (Xo k w a b e)) (.sl 5 (d.ops.map opL)) (.own 0 9 1 (qZ (ZS d (Xo k w a b e)).diags))) 1:=by
 have ht:=(zg7 k w a b e ha hb).gd2
 generalize Xo k w a b e=x at ht ⊢
 have hsl:(qZ d.diags).length=d.diags.length:=List.length_map ..
 have hc:=xO (G:=GD) (qZ d.diags) [[.str x]] (fun r hr=>by obtain ⟨x,_,rfl⟩:=List.mem_map.1 hr;rfl) (fun r hr=>by rw[List.mem_singleton.1 hr];rfl) (fun r hr=>by obtain ⟨x,_,rfl⟩:=List.mem_map.1 hr;rfl) (fun r hr=>by rw[List.mem_singleton.1 hr];rfl) (by omega) (by simp) (by simp)
 refine Fun.of (fun i=>if i=1 then [false,false,false,false,false,false,false,false,false,false,false,false,false,false,true] else []) Tryz.func26 rfl (zi rfl) (by kernel_rfl) ?_;dsimp only[Tryz.f26]
 push_cast -dsimp
 refine cl (ht) ?_;push_cast -dsimp
 refine cl (hc) ?_;push_cast -dsimp
 have hm:qZ (ZS d x).diags=qZ d.diags++[[.str x]]:=List.map_append
 rw[hm]
 exact ⟨[.inl 2],rfl,rfl,by push_cast -dsimp [zb,za,CLe,zd,ZS]⟩
end
section
open CA CB
open Go.RowKit
end
section
open CA CB
open Go.RowKit
theorem zdv (a b:List OpV) (ha:a.length<=100000):Fun Tryz.prog G0 27 [.sl 5 (GQ a),.sl 5 (GQ b)] (qD (Yb a b)) 0:=by
 by_cases hl:a.length=b.length
 ·refine Fun.of (fun _=>[]) Tryz.func27 rfl (zi rfl) (by kernel_rfl) ?_;dsimp only[Tryz.f27]
  push_cast -dsimp [hl]
  refine loop (fun k:Nat=>⟨[(0,.sl 5 (GQ a)),(1,.sl 5 (GQ b)),(5,.sc (.int .i64 k))],[],0,0⟩) (fun k=>k<=a.length/\∀ (j:Nat) (h:j<a.length) (h':j<b.length),j<k->zi1 (a[j]'h) (b[j]'h')=true) (fun k=>a.length-k) 0 ⟨Nat.zero_le _,fun j _ _ hj=>by omega⟩ ?_ ?_
  ·exact zH.mk [] rfl rfl (Nat.le_refl _) rfl (by push_cast -dsimp [zb,za,CLe,zd,hl]) (by push_cast -dsimp [zb,za,CLe,zd])
  ·intro k hk
   have hk1:=hk.1
   have hk2:=hk.2
   by_cases h:k<a.length
   ·have hga:=Hp a k h
    have hgb:=Hp b k (by omega)
    have heq:zi1 (a[k]'h) (b[k]'(by omega))=zi1 (a[k]'h) (b[k]'(by omega)):=rfl
    simp only[opL]at hga hgb
    conv at heq=>lhs;unfold zi1
    cases he:zi1 (a[k]'h) (b[k]'(by omega)) with
    | true =>
     rw[he]at heq
     push_cast -dsimp [h,hga,hgb,heq]
     (try simp only[lS]);repeat refine And.intro (by omega) ?_
     refine ⟨k+1,⟨by omega,fun j hj hj' hjk=>?_⟩,by omega,zH.mk [] rfl rfl (Nat.le_refl _) rfl (by push_cast -dsimp [zb,za,CLe,zd]) (by push_cast -dsimp [zb,za,CLe,zd])⟩
     rcases Nat.lt_or_ge j k with g | g
     ·exact hk2 j hj hj' g
     ·have:j=k:=by omega
      subst this;exact he
    | false =>
     rw[he]at heq
     push_cast -dsimp [h,hga,hgb,heq]
     (try simp only[lS]);repeat refine And.intro (by omega) ?_
     refine ⟨[],rfl,rfl,?_⟩
     push_cast -dsimp [zb,za,CLe,zd]
     have:¬Yb a b=true:=fun e=>by
      have:=((J7 a b).1 e).2 k h (by omega)
      rw[he]at this;cases this
     simp[this]
   ·push_cast -dsimp [h]
    refine ⟨[],rfl,rfl,?_⟩
    push_cast -dsimp [zb,za,CLe,zd]
    have:Yb a b=true:=(J7 a b).2 ⟨hl,fun j hj hj'=>hk2 j hj hj' (by omega)⟩
    simp[this]
 ·refine Fun.of (fun _=>[]) Tryz.func27 rfl (zi rfl) (by kernel_rfl) ?_;dsimp only[Tryz.f27]
  push_cast -dsimp [hl]
  refine ⟨[],rfl,rfl,?_⟩
  push_cast -dsimp [zb,za,CLe,zd]
  have:¬Yb a b=true:=fun e=>hl ((J7 a b).1 e).1
  simp[this]
def okO (o:OpV):Bool:=decide (o.a.length<=1000)&&decide (o.b.length<=1000)&&decide (o.d.length<=5000)
def zjl (l:List OpV):Bool:=(l.take 200).all okO&&decide (l.length<=100)
theorem zhU (l:List OpV):Fun Tryz.prog G0 32 [.sl 5 (GQ l)] (qD (zjl l)) 0:=by
 refine Fun.of (fun _=>[]) Tryz.func32 rfl (zi rfl) (by kernel_rfl) ?_;dsimp only[Tryz.f32]
 push_cast -dsimp
 refine loop (fun k:Nat=>⟨[(0,.sl 5 (GQ l)),(3,.sc (.int .i64 k))],[],0,0⟩) (fun k=>k<=l.length/\k<=200/\∀ j (hj:j<l.length),j<k->okO (l[j]'hj)=true) (fun k=>l.length-k) 0 ⟨Nat.zero_le _,Nat.zero_le _,fun j _ hj=>by omega⟩ ?_ ?_
 ·exact zH.mk [] rfl rfl (Nat.le_refl _) rfl (by push_cast -dsimp [zb,za,CLe,zd]) (by push_cast -dsimp [zb,za,CLe,zd])
 ·intro k hk
  have hk1:=hk.1
  have hk2:=hk.2.1
  have hk3:=hk.2.2
  have fin:(¬k<l.length∨¬k<200)->zjl l=decide ((l.length:Int)<=100):=fun hh=>by
   have:(l.take 200).all okO=true:=List.all_eq_true.2 fun x hx=>by
    obtain ⟨j,hj,rfl⟩:=List.getElem_of_mem hx
    rw[List.length_take]at hj
    rw[List.getElem_take]
    exact hk3 j (by omega) (by omega)
   simp only[zjl,this,Bool.true_and]
   rw[decide_eq_decide];omega
  by_cases h:k<l.length
  ·by_cases h2:k<200
   ·have hg:=Hp l k h
    have h2':(k:Int)<200:=by omega
    have hno:okO (l[k]'h)=false->zjl l=false:=fun e=>by
     have:(l.take 200).all okO=false:=List.all_eq_false.2 ⟨l[k]'h,List.mem_of_getElem? (i:=k) (by rw[List.getElem?_take,if_pos h2,List.getElem?_eq_getElem h]),by simp[e]⟩
     simp[zjl,this]
    have hyes:okO (l[k]'h)=true->∀ j (hj:j<l.length),j<k+1->okO (l[j]'hj)=true:=fun e j hj hjk=>by
     rcases Nat.lt_or_ge j k with g | g
     ·exact hk3 j hj g
     ·have:j=k:=by omega
      subst this;exact e
    cases ho:l[k]'h with
    | mk kd s a b d =>
     rw[ho]at hg hno hyes
     simp only[opL]at hg
     simp only[okO]at hno hyes
     by_cases ha:a.length<=1000
     ·have ha':¬(1000:Int)<(a.length:Int):=by omega
      by_cases hb:b.length<=1000
      ·have hb':¬(1000:Int)<(b.length:Int):=by omega
       by_cases hd:d.length<=5000
       ·have hd':¬(5000:Int)<(d.length:Int):=by omega
        push_cast -dsimp [h,h2',hg,ha',hb',hd']
        (try simp only[lS]);repeat refine And.intro (by omega) ?_
        refine ⟨k+1,⟨by omega,by omega,hyes (by simp[ha,hb,hd])⟩,by omega,zH.mk [] rfl rfl (Nat.le_refl _) rfl (by push_cast -dsimp [zb,za,CLe,zd]) (by push_cast -dsimp [zb,za,CLe,zd])⟩
       ·have hd':(5000:Int)<(d.length:Int):=by omega
        have hf:=hno (by simp[hd])
        push_cast -dsimp [h,h2',hg,ha',hb',hd']
        (try simp only[lS]);repeat refine And.intro (by omega) ?_
        exact ⟨[],rfl,rfl,by push_cast -dsimp [zb,za,CLe,zd];simp[hf]⟩
      ·have hb':(1000:Int)<(b.length:Int):=by omega
       have hf:=hno (by simp[hb])
       push_cast -dsimp [h,h2',hg,ha',hb']
       (try simp only[lS]);repeat refine And.intro (by omega) ?_
       exact ⟨[],rfl,rfl,by push_cast -dsimp [zb,za,CLe,zd];simp[hf]⟩
     ·have ha':(1000:Int)<(a.length:Int):=by omega
      have hf:=hno (by simp[ha])
      push_cast -dsimp [h,h2',hg,ha']
      (try simp only[lS]);repeat refine And.intro (by omega) ?_
      exact ⟨[],rfl,rfl,by push_cast -dsimp [zb,za,CLe,zd];simp[hf]⟩
   ·have h2':¬(k:Int)<200:=by omega
    have hf:=fin (.inr h2)
    push_cast -dsimp [h,h2']
    refine ⟨[],rfl,rfl,?_⟩
    push_cast -dsimp [zb,za,CLe,zd]
    rw[hf]
  ·have hf:=fin (.inl h)
   push_cast -dsimp [h]
   refine ⟨[],rfl,rfl,?_⟩
   push_cast -dsimp [zb,za,CLe,zd]
   rw[hf]
end
section
open CA CB
open Go.RowKit
theorem zkY (a b:zN):(decide (a.slot=b.slot)&&decide (a.ino=b.ino)&&a.content==b.content&&decide (a.data=b.data))=decide (a=b):=by
 obtain ⟨a1,a2,a3,a4⟩:=a
 obtain ⟨b1,b2,b3,b4⟩:=b
 rw[Bool.eq_iff_iff]
 simp[and_assoc]
theorem zbT (x y:qv) (hx:x.fs.xs.length<=100000) (hp:x.pool.length<=100000) (hk:x.kept.length<=100000) (he:∀ z∈x.fs.xs,z.es.length<=9223372036854775807) (hep:∀ z∈x.pool,z.es.length<=9223372036854775807):Fun Tryz.prog G0 24 [jv x,jv y] (qD (decide (x=y))) 0:=by
 obtain ⟨f,a,p⟩:=x
 obtain ⟨g,b,q⟩:=y
 have hk:a.length<=100000:=hk
 have hla:(zE a).length=a.length:=List.length_map ..
 have hlb:(zE b).length=b.length:=List.length_map ..
 have h1:=zda (G:=G0) f g hx he
 have h2:=Gg (G:=G0) p q hp hep
 have hw:(⟨f,a,p⟩:qv)=⟨g,b,q⟩↔f=g/\p=q/\a=b:=by simp only[qv.mk.injEq];exact ⟨fun h=>⟨h.1,h.2.2,h.2.1⟩,fun h=>⟨h.1,h.2.2,h.2.1⟩⟩
 by_cases c1:f=g
 case neg =>
  have hn:¬(⟨f,a,p⟩:qv)=⟨g,b,q⟩:=fun h=>c1 (hw.1 h).1
  rw[decide_eq_false c1]at h1
  refine Fun.of (fun _=>[]) Tryz.func24 rfl (zi rfl) (by kernel_rfl) ?_;dsimp only[Tryz.f24]
  push_cast -dsimp
  refine cl (h1) ?_;push_cast -dsimp
  exact ⟨[],rfl,rfl,by push_cast -dsimp [zb,za,CLe,zd,hn]⟩
 rw[decide_eq_true c1]at h1
 by_cases c2:p=q
 case neg =>
  have hn:¬(⟨f,a,p⟩:qv)=⟨g,b,q⟩:=fun h=>c2 (hw.1 h).2.1
  rw[decide_eq_false c2]at h2
  refine Fun.of (fun _=>[]) Tryz.func24 rfl (zi rfl) (by kernel_rfl) ?_;dsimp only[Tryz.f24]
  push_cast -dsimp
  refine cl (h1) ?_;push_cast -dsimp
  refine cl (h2) ?_;push_cast -dsimp
  exact ⟨[],rfl,rfl,by push_cast -dsimp [zb,za,CLe,zd,hn]⟩
 rw[decide_eq_true c2]at h2
 by_cases c3:a.length=b.length
 case neg =>
  have hn:¬(⟨f,a,p⟩:qv)=⟨g,b,q⟩:=fun h=>c3 (by rw[(hw.1 h).2.2])
  have c3':((a.length:Int)=b.length)=False:=eq_false (by omega)
  refine Fun.of (fun _=>[]) Tryz.func24 rfl (zi rfl) (by kernel_rfl) ?_;dsimp only[Tryz.f24]
  push_cast -dsimp
  refine cl (h1) ?_;push_cast -dsimp
  refine cl (h2) ?_;push_cast -dsimp [hla,hlb,c3']
  exact ⟨[],rfl,rfl,by push_cast -dsimp [zb,za,CLe,zd,hn]⟩
 have c3':((a.length:Int)=b.length)=True:=eq_true (by omega)
 refine Fun.of (fun _=>[]) Tryz.func24 rfl (zi rfl) (by kernel_rfl) ?_;dsimp only[Tryz.f24]
 push_cast -dsimp
 refine cl (h1) ?_;push_cast -dsimp
 refine cl (h2) ?_;push_cast -dsimp [hla,hlb,c3']
 refine loop (fun i:Nat=>⟨[(2,.ptr 0 0),(3,.ptr 1 0),(5,.sc (.int .i64 i))],[kg ⟨f,a,p⟩,kg ⟨g,b,q⟩],0,0⟩) (fun i=>i<=a.length/\a.take i=b.take i) (fun i=>a.length-i) 0 ⟨Nat.zero_le _,rfl⟩ ?_ ?_
 ·exact zH.mk [] rfl rfl (Nat.zero_le _) rfl (by push_cast -dsimp [zb,za,CLe,zd]) (by push_cast -dsimp [zb,za,CLe,zd])
 rintro i ⟨i1,i2⟩
 by_cases h:i<a.length
 ·have hb:i<b.length:=by omega
  have g1:=jj a i h
  have g2:=jj b i hb
  have hd:=zkY a[i] b[i]
  by_cases hab:a[i]=b[i]
  ·rw[decide_eq_true hab]at hd
   push_cast -dsimp [hla,hlb,h,hb,g1,g2,hd]
   (try simp only[lS]);repeat refine And.intro (by omega) ?_
   (try simp only[lS]);repeat refine And.intro (by omega) ?_
   exact ⟨i+1,⟨h,(XK (by omega) hb i2).2 hab⟩,by omega,zH.mk [] rfl rfl (Nat.zero_le _) rfl (by push_cast -dsimp [zb,za,CLe,zd]) (by push_cast -dsimp [zb,za,CLe,zd])⟩
  ·rw[decide_eq_false hab]at hd
   have hn:¬(⟨f,a,p⟩:qv)=⟨g,b,q⟩:=fun h=>hab (by have:=(hw.1 h).2.2;subst this;rfl)
   push_cast -dsimp [hla,hlb,h,hb,g1,g2,hd]
   (try simp only[lS]);repeat refine And.intro (by omega) ?_
   exact ⟨[],rfl,rfl,by push_cast -dsimp [zb,za,CLe,zd,hn]⟩
 ·have hab:a=b:=by rw[←List.take_of_length_le (l:=a) (i:=i) (by omega),i2,List.take_of_length_le (by omega)]
  have hn:=hw.2 ⟨c1,c2,hab⟩
  push_cast -dsimp [hla,h]
  exact ⟨[],rfl,rfl,by push_cast -dsimp [zb,za,CLe,zd,hn]⟩
theorem zej (w:qv) (hk:w.kept.length<=100000) (hs:XL w.kept):Fun Tryz.prog G0 33 [jv w] (zar (zdS w)) 0:=by
 have h:=NQ (G:=G0) w hk hs.1 hs.2
 refine Fun.of (fun i=>if i=1 then [false,false,false,false,true] else []) Tryz.func33 rfl (zi rfl) (by kernel_rfl) ?_;dsimp only[Tryz.f33]
 push_cast -dsimp
 refine cl (h) ?_;push_cast -dsimp
 exact ⟨[],rfl,rfl,by push_cast -dsimp [zb,za,CLe,zd,zdS]⟩
theorem zhQ (d:jo) (hd:QR d) (o:OpV) (ho:short o) (hl:o.d.length<=10000):Fun Tryz.prog G0 34 [zar d,.agg (opL o)] (.tup [zar (Yj d o).1,.sc (.int .i64 (Yj d o).2)]) 0:=by
 obtain ⟨k,s,a,b,t⟩:=o
 have hb1:=hd.slot.1
 have hb2:=hd.slot.2
 have hopl:(d.ops.map opL).length=d.ops.length:=List.length_map ..
 have hol:=hd.ops
 have hka:∀ r∈d.ops.map opL,r.length=5:=fun r hr=>by obtain ⟨x,_,rfl⟩:=List.mem_map.1 hr;rfl
 by_cases hk:k=3∨k=7
 ·have e:YP d ⟨k,s,a,b,t⟩=⟨k,d.slot+1,a,b,t⟩:=by unfold YP;rw[if_pos hk]
  have hk7:(7<k)=False:=eq_false (by omega)
  have hdo:=zcl d.w hd.wi hd.ws ⟨k,d.slot+1,a,b,t⟩ ho hl (show k<=7 by omega)
  have ea:Yj d ⟨k,s,a,b,t⟩=if (doV d.w ⟨k,d.slot+1,a,b,t⟩).2≠0 then (d,(doV d.w ⟨k,d.slot+1,a,b,t⟩).2) else (⟨(doV d.w ⟨k,d.slot+1,a,b,t⟩).1,d.ops++[⟨k,d.slot+1,a,b,t⟩],d.diags,d.status,if 0<d.slot+1 then d.slot+1 else d.slot⟩,0):=by
   unfold Yj;rw[if_neg (show ¬7<k by omega),e]
  have hmx:(0<d.slot+1)=True:=eq_true (by omega)
  unfold opL at hdo ⊢
  by_cases hz:(doV d.w ⟨k,d.slot+1,a,b,t⟩).2=0
  ·rw[ea,if_neg (fun h=>h hz),if_pos (show 0<d.slot+1 by omega)]
   rw[hz]at hdo
   rcases hk with hk3 | hk3 <;>
   ·have hk3':=eq_true hk3
    by_cases hoe:d.ops.map opL = []
    ·refine Fun.of (fun i=>if i=10 then [false,false,false,false,false,false,false,true,false,false,true] else []) Tryz.func34 rfl (zi rfl) (by kernel_rfl) ?_;dsimp only[Tryz.f34]
     push_cast -dsimp [hk3,hk7,Int.reduceEq]
     subst hk3
     (try simp only[lS]);repeat refine And.intro (by omega) ?_
     refine cl (hdo) ?_;push_cast -dsimp [hmx,hoe]
     (try simp only[lS]);repeat refine And.intro (by omega) ?_
     exact ⟨[],rfl,rfl,by push_cast -dsimp [zb,za,CLe,zd,List.map_append,hoe,opL]⟩
    ·have hoe':=eq_false hoe
     refine Fun.of (fun i=>if i=10 then [false,false,false,false,false,false,false,true,false,false,true] else []) Tryz.func34 rfl (zi rfl) (by kernel_rfl) ?_;dsimp only[Tryz.f34]
     push_cast -dsimp [hk3,hk7,Int.reduceEq]
     subst hk3
     (try simp only[lS]);repeat refine And.intro (by omega) ?_
     refine cl (hdo) ?_;push_cast -dsimp [hmx,hoe']
     (try simp only[lS]);repeat refine And.intro (by omega) ?_
     exact ⟨[],rfl,rfl,by push_cast -dsimp [zb,za,CLe,zd,List.map_append,opL]⟩
  ·rw[ea,if_pos hz]
   have hz':=eq_false hz
   rcases hk with hk3 | hk3 <;>
   ·have hk3':=eq_true hk3
    refine Fun.of (fun i=>if i=10 then [false,false,false,false,false,false,false,true,false,false,true] else []) Tryz.func34 rfl (zi rfl) (by kernel_rfl) ?_;dsimp only[Tryz.f34]
    push_cast -dsimp [hk3,hk7,Int.reduceEq]
    subst hk3
    (try simp only[lS]);repeat refine And.intro (by omega) ?_
    refine cl (hdo) ?_;push_cast -dsimp [hz']
    exact ⟨[],rfl,rfl,by push_cast -dsimp [zb,za,CLe,zd]⟩
 ·have e:YP d ⟨k,s,a,b,t⟩=⟨k,0,a,b,t⟩:=by unfold YP;rw[if_neg hk]
  have k3:(k=3)=False:=eq_false fun h=>hk (.inl h)
  have k7:(k=7)=False:=eq_false fun h=>hk (.inr h)
  by_cases hk7:7<k
  ·have ea:Yj d ⟨k,s,a,b,t⟩=(d,12):=by unfold Yj;rw[if_pos hk7]
   rw[ea]
   have hk7':=eq_true hk7
   unfold opL
   refine Fun.of (fun i=>if i=10 then [false,false,false,false,false,false,false,true,false,false,true] else []) Tryz.func34 rfl (zi rfl) (by kernel_rfl) ?_;dsimp only[Tryz.f34]
   push_cast -dsimp [k3,k7,hk7']
   exact ⟨[],rfl,rfl,by push_cast -dsimp [zb,za,CLe,zd]⟩
  ·have hdo:=zcl d.w hd.wi hd.ws ⟨k,0,a,b,t⟩ ho hl (show k<=7 by omega)
   have ea:Yj d ⟨k,s,a,b,t⟩=if (doV d.w ⟨k,0,a,b,t⟩).2≠0 then (d,(doV d.w ⟨k,0,a,b,t⟩).2) else (⟨(doV d.w ⟨k,0,a,b,t⟩).1,d.ops++[⟨k,0,a,b,t⟩],d.diags,d.status,if (0:Int)<0 then 0 else d.slot⟩,0):=by
    unfold Yj;rw[if_neg hk7,e]
   have hk7':=eq_false hk7
   unfold opL at hdo ⊢
   by_cases hz:(doV d.w ⟨k,0,a,b,t⟩).2=0
   ·rw[ea,if_neg (fun h=>h hz),if_neg (show ¬(0:Int)<0 by omega)]
    rw[hz]at hdo
    by_cases hoe:d.ops.map opL = []
    ·refine Fun.of (fun i=>if i=10 then [false,false,false,false,false,false,false,true,false,false,true] else []) Tryz.func34 rfl (zi rfl) (by kernel_rfl) ?_;dsimp only[Tryz.f34]
     push_cast -dsimp [k3,k7,hk7']
     refine cl (hdo) ?_;push_cast -dsimp [hoe]
     (try simp only[lS]);repeat refine And.intro (by omega) ?_
     exact ⟨[],rfl,rfl,by push_cast -dsimp [zb,za,CLe,zd,List.map_append,hoe,opL]⟩
    ·have hoe':=eq_false hoe
     refine Fun.of (fun i=>if i=10 then [false,false,false,false,false,false,false,true,false,false,true] else []) Tryz.func34 rfl (zi rfl) (by kernel_rfl) ?_;dsimp only[Tryz.f34]
     push_cast -dsimp [k3,k7,hk7']
     refine cl (hdo) ?_;push_cast -dsimp [hoe']
     (try simp only[lS]);repeat refine And.intro (by omega) ?_
     exact ⟨[],rfl,rfl,by push_cast -dsimp [zb,za,CLe,zd,List.map_append,opL]⟩
   ·rw[ea,if_pos hz]
    have hz':=eq_false hz
    refine Fun.of (fun i=>if i=10 then [false,false,false,false,false,false,false,true,false,false,true] else []) Tryz.func34 rfl (zi rfl) (by kernel_rfl) ?_;dsimp only[Tryz.f34]
    push_cast -dsimp [k3,k7,hk7']
    refine cl (hdo) ?_;push_cast -dsimp [hz']
    exact ⟨[],rfl,rfl,by push_cast -dsimp [zb,za,CLe,zd]⟩
theorem zex (d:jo) (hd:d.diags.length<=80000) (k w:Int) (a b:List UInt8) (e:Int) (ha:a.length<=1000) (hb:b.length<=1000) :
  Fun Tryz.prog G0 35 [zar d,.sc (.int .i64 k),.sc (.int .i64 w),.str a,.str b,.sc (.int .i64 e)] (zar (ZS d (Xo k w a b e))) 0:=by
 have ht:=ze1 k w a b e ha hb
 generalize Xo k w a b e=x at ht ⊢
 have hsl:(qZ d.diags).length=d.diags.length:=List.length_map ..
 refine Fun.of (fun _=>[]) Tryz.func35 rfl (zi rfl) (by kernel_rfl) ?_;dsimp only[Tryz.f35]
 push_cast -dsimp
 (try simp only[lS]);repeat refine And.intro (by omega) ?_
 refine cl (ht) ?_;push_cast -dsimp
 (try simp only[lS]);repeat refine And.intro (by omega) ?_
 exact ⟨[],rfl,rfl,by push_cast -dsimp [zb,za,CLe,zd,ZS]⟩
end
section
open CA CB
open Go.RowKit
structure zqZ where
 path:List UInt8
 ino:Int
deriving DecidableEq,Inhabited
def uc (p n:List UInt8):List UInt8:=if p = [47] then p++n else p++[47]++n
section
variable {G:zm}
end
end
section
open CA CB
open Go.RowKit
abbrev Jv:=List (List (List UInt8)×zy)
structure vi (f:FsV) (tr:Int->List (List UInt8)->Jv):Prop where
 has:∀ n ns,zF n f.xs=true->tr n ns=(ns,zg n f.xs) :: (zg n f.xs).es.flatMap fun e=>tr e.ino (ns++[e.name])
 not:∀ n ns,zF n f.xs=false->tr n ns = []
abbrev V4 (p:List (List UInt8)×zy):List C:=[.str (q9 p.1),.agg (JU p.2)]
def zac (tr:Int->List (List UInt8)->Jv) (ns:List (List UInt8)) (es:List zZ):Jv:=es.flatMap fun e=>tr e.ino (ns++[e.name])
def XC (tr:Int->List (List UInt8)->Jv) (S:List (List (List UInt8)×List zZ)):Jv:=S.flatMap fun p=>zac tr p.1 p.2
abbrev lvC (p:List (List UInt8)×List zZ):List C:=[.sl 1 (qZ p.1),.sl 2 (zG p.2)]
def U9 (S:List (List (List UInt8)×List zZ)):List C:=(S.reverse.map lvC).flatten
theorem zlQ (S:List (List (List UInt8)×List zZ)):(U9 S).length=S.length*2:=by
 unfold U9
 rw[qm (k:=2) fun r hr=>by obtain ⟨p,_,rfl⟩:=List.mem_map.1 hr;rfl]
 simp
theorem vC (p:List (List UInt8)×List zZ) (S:List (List (List UInt8)×List zZ)):U9 (p :: S)=U9 S++lvC p:=by
 unfold U9;simp
def Zy (p:List (List UInt8)×zy):Prop:=p.1.length<=1000000/\(Lib.join p.1 [47]).length<=1000000
structure Yw (f:FsV) (tr:Int->List (List UInt8)->Jv) (IT:List (List C)) (sf:Nat->Bool) (S:List (List (List UInt8)×List zZ)) (k cap:Nat):Prop where
 rest:IT.drop k=(XC tr S).map V4
 bound:∀ p∈XC tr S,Zy p
 le:k<=IT.length
 go:∀ j,j<k->sf j=false
 pos:S.length<=k
 room:S.length<=cap
 roomM:cap<=9223372036854775807
 has:∀ p∈S,p.2.length<=40/\∀ e∈p.2,zF e.ino f.xs=true
theorem QW (S:List (List (List UInt8)×List zZ)):((U9 S).all C.stayB)=true:=XP fun r hr=>by
 obtain ⟨p,_,rfl⟩:=List.mem_map.1 hr;rfl
theorem Yw.pop {f:FsV} {tr:Int->List (List UInt8)->Jv} {IT:List (List C)} {sf:Nat->Bool} {S:List (List (List UInt8)×List zZ)} {ns:List (List UInt8)} {k cap:Nat} (h:Yw f tr IT sf ((ns,[]) :: S) k cap):Yw f tr IT sf S k cap:=by
 have e:XC tr ((ns,[]) :: S)=XC tr S:=by simp[XC,zac]
 exact ⟨by rw[←e];exact h.rest,fun p hp=>h.bound p (by rw[e];exact hp),h.le,h.go,by have:=h.pos;rw[List.length_cons]at this;omega,by have:=h.room;rw[List.length_cons]at this;omega,h.roomM,fun p hp=>h.has p (List.mem_cons_of_mem _ hp)⟩
theorem Yw.next {f:FsV} {tr:Int->List (List UInt8)->Jv} {IT:List (List C)} {sf:Nat->Bool} {S:List (List (List UInt8)×List zZ)} {ns:List (List UInt8)} {e:zZ} {r:List zZ} {k cap:Nat} (h:Yw f tr IT sf ((ns,e :: r) :: S) k cap) (ht:vi f tr) (hf:Vi f.xs) (h3:YH f) :
  ∃ y,y=zg e.ino f.xs/\y∈f.xs/\IT[k]?=some (V4 (ns++[e.name],y))/\Zy (ns++[e.name],y)/\(sf k=false->(∀ c,S.length+2<=c->c<=9223372036854775807->Yw f tr IT sf ((ns++[e.name],y.es) :: (ns,r) :: S) (k+1) c)/\(y.es = []->Yw f tr IT sf ((ns,r) :: S) (k+1) cap)):=by
 have hh:zF e.ino f.xs=true:=(h.has (ns,e :: r) List.mem_cons_self).2 e List.mem_cons_self
 obtain ⟨hm,hi⟩:=jf hh
 have hu:=ht.has e.ino (ns++[e.name]) hh
 have hrest:XC tr ((ns,e :: r) :: S)=(ns++[e.name],zg e.ino f.xs) :: XC tr ((ns++[e.name],(zg e.ino f.xs).es) :: (ns,r) :: S):=by
  simp only[XC,zac,List.flatMap_cons,hu,List.cons_append,List.append_assoc]
 refine ⟨_,rfl,hm,?_,h.bound _ (by rw[hrest];exact List.mem_cons_self),fun hs=>?_⟩
 ·have:=h.rest
  rw[hrest]at this
  have:=congrArg (·[0]?) this
  simpa using this
 ·have hd:IT.drop (k+1)=(XC tr ((ns++[e.name],(zg e.ino f.xs).es) :: (ns,r) :: S)).map V4:=by
   rw[←List.drop_drop,h.rest,hrest];rfl
  have hb:∀ p∈XC tr ((ns++[e.name],(zg e.ino f.xs).es) :: (ns,r) :: S),Zy p:=fun p hp=>h.bound p (by rw[hrest];exact List.mem_cons_of_mem _ hp)
  have hkl:k+1<=IT.length:=by
   rcases Nat.lt_or_ge k IT.length with g | g
   ·exact g
   ·have:=h.rest
    rw[List.drop_eq_nil_of_le g,hrest]at this;cases this
  have hgo:∀ j,j<k+1->sf j=false:=fun j hj=>by
   rcases Nat.lt_or_ge j k with g | g
   ·exact h.go j g
   ·rw[show j=k by omega];exact hs
  have hp:=h.pos
  have hro:=h.room
  have hrm:=h.roomM
  rw[List.length_cons]at hp hro
  have h0:=h.has (ns,e :: r) List.mem_cons_self
  have hr0:r.length<=40/\∀ e'∈r,zF e'.ino f.xs=true:=⟨by have:=h0.1;simp at this;omega,fun e' he=>h0.2 e' (List.mem_cons_of_mem _ he)⟩
  refine ⟨fun c h1 h2=>⟨hd,hb,hkl,hgo,by simp;omega,by simp;omega,h2,fun p hp=>?_⟩,fun hne=>?_⟩
  ·rcases List.mem_cons.1 hp with rfl | hp
   ·exact ⟨(hf.2 _ hm).2.1,fun e' he=>h3 _ hm e' he⟩
   ·rcases List.mem_cons.1 hp with rfl | hp
    ·exact hr0
    ·exact h.has p (List.mem_cons_of_mem _ hp)
  ·have hz:XC tr ((ns++[e.name],(zg e.ino f.xs).es) :: (ns,r) :: S)=XC tr ((ns,r) :: S):=by rw[hne];simp[XC,zac]
   rw[hz]at hd hb
   exact ⟨hd,hb,hkl,hgo,by simp;omega,by simp;omega,hrm,fun p hp=>by
    rcases List.mem_cons.1 hp with rfl | hp
    ·exact hr0
    ·exact h.has p (List.mem_cons_of_mem _ hp)⟩
theorem uO (f:FsV) (ino:Int) (ns:List (List UInt8)) (tr:Int->List (List UInt8)->Jv) (ht:vi f tr) (hf:Vi f.xs) (hR:qc f.xs) (h3:YH f) (h2:∀ x∈f.xs,x.kind≠2->x.es = []) (hl:(tr ino ns).length<=1000000) (hb:∀ p∈tr ino ns,Zy p) :
  ko Tryz.prog G0 157 [] [.row (fsC f),.row [.sc (.int .i64 ino)],.row [.sl 1 (qZ ns)]] [] ((tr ino ns).map V4):=by
 have h40:=hf.1
 refine ko.of (fun i=>if i=1000000+197 then [true] else if i=1 then [false,false,false,false,false,false,false,true] else if i=10 then [false,false,false,false,true] else []) Tryz.func157 rfl (zi rfl) (by kernel_rfl) ?_;dsimp only[Tryz.f157]
 intro l sf
 push_cast -dsimp
 refine cl (jP f ino (by omega) hR) ?_;push_cast -dsimp
 cases hh:zF ino f.xs with
 | false =>
  have hn:=ht.not ino ns hh
  push_cast -dsimp
  rw[hn]
  exact .inl ⟨rfl,fun j hj=>absurd hj (Nat.not_lt_zero _)⟩
 | true =>
  have hn:=ht.has ino ns hh
  have q:Zy (ns,zg ino f.xs):=hb _ (by rw[hn];exact List.mem_cons_self)
  have h0:((tr ino ns).map V4)[0]?=some (V4 (ns,zg ino f.xs)):=by rw[hn];rfl
  obtain ⟨hm,hino⟩:=jf hh
  generalize zg ino f.xs=x at hn h0 hm hino
  have hITl:((tr ino ns).map V4).length<=1000000:=by rw[List.length_map];exact hl
  generalize hIT:(tr ino ns).map V4=IT at h0 hITl
  push_cast -dsimp
  refine cl (Xu ns (by have:=q.1;dsimp only at this;omega) (by have:=q.2;dsimp only at this;omega)) ?_;push_cast -dsimp [h0]
  refine ⟨by push_cast -dsimp [zb,za,CLe,zd],fun j hj=>absurd hj (Nat.not_lt_zero _),br (fun hs=>?_) (fun hs=>?_)⟩
  ·push_cast -dsimp
   exact .inr ⟨Nat.succ_pos _,hs⟩
  ·push_cast -dsimp
   refine loop (fun p:List (List (List UInt8)×List zZ)×Nat×Nat=>⟨[(0,.sc (.func (.yield l) #[] #[])),(1,.row (fsC f)),(7,.bs 1 0 2 p.1.length p.2.2)],[[.any,.any,.any,.any,.any,.any],U9 p.1++List.replicate ((p.2.2-p.1.length)*2) .any],0,p.2.1⟩) (fun p=>Yw f tr IT sf p.1 p.2.1 p.2.2) (fun p=>2*(IT.length-p.2.1)+p.1.length) ([(ns,x.es)],1,1) ?_ ?_ ?_
   ·have hdr:IT.drop 1=(XC tr [(ns,x.es)]).map V4:=by
     rw[←hIT,hn]
     simp[XC,zac]
    show Yw f tr IT sf [(ns,x.es)] 1 1
    exact ⟨hdr,fun p hp=>hb p (by rw[hn];exact List.mem_cons_of_mem _ (by simpa [XC,zac] using hp)),by have:=(List.getElem?_eq_some_iff.1 h0).1;omega,fun j hj=>by rw[show j=0 by omega];exact hs,Nat.le_refl _,Nat.le_refl _,by omega,fun p hp=>by
     rw[List.mem_singleton]at hp;subst hp
     exact ⟨(hf.2 x hm).2.1,fun e he=>h3 x hm e he⟩⟩
   ·have hl1:U9 [(ns,x.es)] = [.sl 1 (qZ ns),.sl 2 (zG x.es)]:=rfl
    exact zH.mk [] rfl rfl (Nat.zero_le _) rfl (by push_cast -dsimp [zb,za,CLe,zd]) (by push_cast -dsimp [zb,za,CLe,zd,hl1])
   ·rintro ⟨S,k,cap⟩ hS
    dsimp only at hS ⊢
    cases S with
    | nil =>
     push_cast -dsimp
     have hr:=hS.rest
     have he:IT.length<=k:=by
      rcases Nat.lt_or_ge k IT.length with g | g
      ·have:=congrArg List.length hr
       simp[XC]at this;omega
      ·exact g
     exact .inl ⟨by have:=hS.le;omega,hS.go⟩
    | cons p S' =>
     obtain ⟨ns1,es1⟩:=p
     have hL:=zlQ S'
     have hd0:∀ X,(U9 S'++X).drop (S'.length*2)=X:=fun X=>List.drop_left' hL
     have hd1:∀ X,(U9 S'++X).drop (S'.length*2+1)=X.drop 1:=fun X=>by rw[←List.drop_drop,hd0]
     have hd2:∀ X,(U9 S'++X).drop (S'.length*2+2)=X.drop 2:=fun X=>by rw[←List.drop_drop,hd0]
     have ht0:∀ X,(U9 S'++X).take (S'.length*2)=U9 S':=fun X=>List.take_left' hL
     have ht1:∀ X,(U9 S'++X).take (S'.length*2+1)=U9 S'++X.take 1:=fun X=>by
      rw[List.take_append,List.take_of_length_le (by omega),hL];congr 2;omega
     have hpos:((0:Int)<(S'.length:Int)+1)=True:=eq_true (by omega)
     have hroom:=hS.room
     have hroomM:=hS.roomM
     rw[List.length_cons]at hroom
     have hlc:(((S'.length:Int)+1-1)=(S'.length:Int)):=by omega
     push_cast -dsimp [vC,hlc,hpos]
     (try simp only[lS]);repeat refine And.intro (by omega) ?_
     generalize hpad:List.replicate ((cap-(S'.length+1))*2) C.any=pad
     have hps:(pad.all C.stayB)=true:=by rw[←hpad];simp[List.all_replicate,C.stayB]
     have hst1:((U9 S'++(lvC (ns1,es1)++pad)).all C.stayB)=true:=by rw[List.all_append,QW,List.all_append,hps];rfl
     have hpl:pad.length=(cap-(S'.length+1))*2:=by rw[←hpad];simp
     refine loop (fun p:List zZ×Nat=>⟨[(0,.sc (.func (.yield l) #[] #[])),(1,.row (fsC f)),(7,.bs 1 0 2 (S'.length+1) cap),(8,.ptr 1 (S'.length*2))],[[.any,.any,.any,.any,.any,.any],U9 S'++([.sl 1 (qZ ns1),.sl 2 (zG p.1)]++pad)],0,p.2⟩) (fun p=>Yw f tr IT sf ((ns1,p.1) :: S') p.2 cap/\2*(IT.length-p.2)<=2*(IT.length-k)) (fun p=>p.1.length) (es1,k) ⟨hS,Nat.le_refl _⟩ ?_ ?_
     ·exact zH.mk [] rfl rfl (Nat.zero_le _) rfl (by push_cast -dsimp [zb,za,CLe,zd]) (by push_cast -dsimp [zb,za,CLe,zd,List.append_assoc];exact zX hst1)
     ·rintro ⟨es,k1⟩ ⟨hT,hkk⟩
      dsimp only at hT hkk ⊢
      cases es with
      | nil =>
       push_cast -dsimp [hd0,hd1,hd2,ht0,ht1,hlc]
       refine ⟨by omega,by omega,⟨by omega,by omega⟩,(S',k1,cap),hT.pop,by dsimp only;omega,zH.mk [] rfl rfl (Nat.zero_le _) rfl (by push_cast -dsimp [zb,za,CLe,zd]) ?_⟩
       push_cast -dsimp [zb,za,CLe,zd]
       exact zbR (zX (QW S')) (YV (by simp[hpl];omega))
      | cons e r =>
       obtain ⟨y,hy,hym,hk1,hbd,hnext⟩:=hT.next ht hf h3
       have hrl:((0:Int)<(r.length:Int)+1)=True:=eq_true (by omega)
       have hlr:(zG r).length=r.length:=List.length_map ..
       have hhe:zF e.ino f.xs=true:=(hT.has (ns1,e :: r) List.mem_cons_self).2 e List.mem_cons_self
       have hgy:zg e.ino f.xs=y:=hy.symm
       have hb1:ns1.length+1<=1000000:=by have:=hbd.1;simpa using this
       have hb2:(Lib.join (ns1++[e.name]) [47]).length<=1000000:=hbd.2
       have hst2:(qZ ns1).length=ns1.length:=List.length_map ..
       push_cast -dsimp [hd0,hd1,hd2,ht0,ht1,hlc,hlr,hrl,hst2,List.append_assoc,List.take_length]
       (try simp only[lS]);repeat refine And.intro (by omega) ?_
       refine cl (jP f e.ino (by omega) hR) ?_;push_cast -dsimp [hgy,hhe]
       refine cl (Xu (ns1++[e.name]) (by simp;omega) (by omega)) ?_;push_cast -dsimp [hk1]
       refine ⟨by push_cast -dsimp [zb,za,CLe,zd],hT.go,br (fun hs1=>?_) (fun hs1=>?_)⟩
       ·push_cast -dsimp
        exact .inr ⟨Nat.succ_pos _,hs1⟩
       ·obtain ⟨w1,w2⟩:=hnext hs1
        by_cases k2:y.kind=2
        ·have hSk:=hT.pos
         have hkl:=hT.le
         rw[List.length_cons]at hSk
         have hc1:(U9 S'++C.sl 1 (qZ ns1) :: C.sl 2 (List.map Gz r) :: pad).length=cap*2:=by
          rw[List.length_append,hL,List.length_cons,List.length_cons,hpl];omega
         have hc2:(U9 S'++C.sl 1 (qZ ns1) :: C.sl 2 (List.map Gz r) :: pad).take ((S'.length+1)*2)=U9 S'++[C.sl 1 (qZ ns1),C.sl 2 (List.map Gz r)]:=by
          rw[List.take_append,List.take_of_length_le (by omega),hL,show (S'.length+1)*2-S'.length*2=2 by omega];rfl
         push_cast -dsimp [k2]
         refine zpj (U9 S'++[C.sl 1 (qZ ns1),C.sl 2 (List.map Gz r)]++[C.sl 1 (qZ (ns1++[e.name])),C.sl 2 (zG y.es)]) rfl rfl (by decide) rfl (by decide) (Nat.zero_le _) hc1 hroom hroomM (by omega) (by omega) (by rw[hc2];exact zD (by rw[List.all_append,List.all_append,QW];rfl)) (fun c' g1 g2=>?_)
         have hw:=w1 c' (by omega) g2
         have hwl:=hw.le
         push_cast -dsimp [k2]
         refine ⟨((ns1++[e.name],y.es) :: (ns1,r) :: S',k1+1,c'),hw,by simp only[List.length_cons];omega,zH.mk [] rfl rfl (Nat.zero_le _) rfl (by push_cast -dsimp [zb,za,CLe,zd]) ?_⟩
         push_cast -dsimp [zb,za,CLe,zd,vC,List.append_assoc]
         exact zX (by rw[List.all_append,QW];simp[List.all_replicate,C.stayB])
        ·push_cast -dsimp [k2]
         have hz:=w2 (h2 y hym k2)
         have hle:=hz.le
         refine ⟨(r,k1+1),⟨hz,by dsimp only;omega⟩,by dsimp only;simp,zH.mk [] rfl rfl (Nat.zero_le _) rfl (by push_cast -dsimp [zb,za,CLe,zd]) ?_⟩
         push_cast -dsimp [zb,za,CLe,zd,List.append_assoc]
         exact zX (by rw[List.all_append,QW,List.all_cons,List.all_cons,hps];rfl)
end
section
open CA CB
open Go.RowKit
structure zeF (f:FsV) (tr:Int->List (List UInt8)->Jv):Prop where
 tree:vi f tr
 few:Vi f.xs
 rise:qc f.xs
 third:YH f
 leaf:∀ x∈f.xs,x.kind≠2->x.es = []
structure yR (tr:Int->List (List UInt8)->Jv) (ino:Int) (ns:List (List UInt8)):Prop where
 len:(tr ino ns).length<=1000000
 bound:∀ p∈tr ino ns,Zy p
abbrev zdU (l:Jv):List (List C):=l.map V4
theorem zhx {l:Jv} {k:Nat} {it:List C} (h:(zdU l)[k]?=some it):∃ p,l[k]?=some p/\it=V4 p:=by
 rw[List.getElem?_map]at h
 cases hq:l[k]? with
 | none=>rw[hq]at h;cases h
 | some x=>rw[hq]at h;cases h;exact ⟨x,rfl,rfl⟩
theorem zkE {f:FsV} {tr:Int->List (List UInt8)->Jv} {ino:Int} {ns:List (List UInt8)} (hw:zeF f tr) (hs:yR tr ino ns):ko Tryz.prog G0 157 [] [.row (fsC f),.row [.sc (.int .i64 ino)],.row [.sl 1 (qZ ns)]] [] (zdU (tr ino ns)):=
 uO f ino ns tr hw.tree hw.few hw.rise hw.third hw.leaf hs.len hs.bound
theorem ziE (f:FsV) (ino:Int) (ns:List (List UInt8)):Fun Tryz.prog G0 116 [.agg (fsC f),.sc (.int .i64 ino),.sl 1 (qZ ns)] (.clo (.func 157) [] [.row (fsC f),.row [.sc (.int .i64 ino)],.row [.sl 1 (qZ ns)]]) 0:=by
 refine Fun.of (fun _=>[]) Tryz.func116 rfl (zi rfl) (by kernel_rfl) ?_;dsimp only[Tryz.f116]
 push_cast -dsimp
 exact ⟨[],rfl,rfl,by push_cast -dsimp [zb,za,CLe,zd]⟩
theorem zjz (f:FsV):Fun Tryz.prog G0 77 [.agg (fsC f)] (.clo (.func 157) [] [.row (fsC f),.row [.sc (.int .i64 1)],.row [.sl 1 (qZ [])]]) 0:=by
 refine Fun.of (fun _=>[]) Tryz.func77 rfl (zi rfl) (by kernel_rfl) ?_;dsimp only[Tryz.f77]
 push_cast -dsimp
 refine call (Fun.less (ziE f 1 []) (by push_cast -dsimp [zb,za,CLe,zd])) ?_
 push_cast -dsimp
 exact ⟨[],rfl,rfl,by push_cast -dsimp [zb,za,CLe,zd]⟩
def V7 (n:Int) (l:Jv):List (List UInt8):=(l.filter fun p=>decide (p.2.ino=n)).map fun p=>q9 p.1
def U7 (n:Int) (l:Jv):Option (List UInt8):=(l.find? fun p=>decide (p.2.ino=n)&&decide (p.2.kind=2)).map fun p=>q9 p.1
theorem M5 (f:FsV) (n:Int) (tr:Int->List (List UInt8)->Jv) (hw:zeF f tr) (hs:yR tr 1 []) :
  Fun Tryz.prog G0 43 [.agg (fsC f),.sc (.int .i64 n)] (.tup [.str ((U7 n (tr 1 [])).getD []),.sc (.bool (U7 n (tr 1 [])).isSome)]) 0:=by
 refine Fun.of (fun _=>[]) Tryz.func43 rfl (zi rfl) (by kernel_rfl) ?_;dsimp only[Tryz.f43]
 push_cast -dsimp
 refine cl (zjz f) ?_;push_cast -dsimp
 have hl:=hs.len
 have hit:=zkE hw hs
 generalize tr 1 []=l at hit hl
 refine range (zdU l) (fun k=>match l[k]? with | some p=>decide (p.2.ino=n)&&decide (p.2.kind=2) | none=>false) 4 (fun k=>⟨[],[[.any,.any,.any,.any],[.sc (.int .i64 n)],[.any],[.any]],0,0⟩) hit (by push_cast -dsimp) (by push_cast -dsimp) (by push_cast -dsimp) (Nat.zero_le _) (by push_cast -dsimp) (fun it h=>?_) (fun k _=>rfl) ?_ (fun k it hk hsf=>?_) (fun hsf=>?_)
 ·obtain ⟨x,_,rfl⟩:=List.mem_map.1 h;rfl
 ·exact zH.mk [] rfl rfl (Nat.le_of_ble_eq_true rfl) rfl (by push_cast -dsimp [zb,za,CLe,zd]) (by push_cast -dsimp [zb,za,CLe,zd])
 ·obtain ⟨x,hx2,rfl⟩:=zhx hk
  have hfirst:(decide (x.2.ino=n)&&decide (x.2.kind=2))=true->U7 n l=some (q9 x.1):=fun hb=>by
   obtain ⟨hkl,hxe⟩:=List.getElem?_eq_some_iff.1 hx2
   unfold U7
   rw[List.find?_eq_some_iff_getElem (b:=x) |>.2 ⟨hb,k,hkl,hxe,fun j hj=>?_⟩]
   ·rfl
   ·have:=hsf j hj
    rw[List.getElem?_eq_getElem (by omega)]at this
    simp only[this];rfl
  by_cases c1:x.2.ino=n
  ·by_cases c2:x.2.kind=2
   ·have hd:=hfirst (by simp[c1,c2])
    push_cast -dsimp [c1,c2]
    refine ⟨by rw[hx2];simp[c1,c2],⟨[],[[.any,.any,.any,.any],[.sc (.int .i64 n)],[.str (q9 x.1)],[.sc (.bool true)]],0,0⟩,rfl,zH.mk [] rfl rfl (Nat.le_of_ble_eq_true rfl) rfl (by push_cast -dsimp [zb,za,CLe,zd]) (by push_cast -dsimp [zb,za,CLe,zd]),?_⟩
    push_cast -dsimp [hd]
    exact ⟨[],rfl,rfl,by push_cast -dsimp [zb,za,CLe,zd,hd,Option.getD_some,Option.isSome_some]⟩
   ·push_cast -dsimp [c1,c2]
    refine ⟨by rw[hx2];simp[c2],zH.mk [] rfl rfl (Nat.le_of_ble_eq_true rfl) rfl (by push_cast -dsimp [zb,za,CLe,zd]) (by push_cast -dsimp [zb,za,CLe,zd])⟩
  ·push_cast -dsimp [c1]
   refine ⟨by rw[hx2];simp[c1],zH.mk [] rfl rfl (Nat.le_of_ble_eq_true rfl) rfl (by push_cast -dsimp [zb,za,CLe,zd]) (by push_cast -dsimp [zb,za,CLe,zd])⟩
 ·have hnone:U7 n l=none:=by
   unfold U7
   rw[Option.map_eq_none_iff,List.find?_eq_none]
   intro x hx
   obtain ⟨k,hk,rfl⟩:=List.getElem_of_mem hx
   have:=hsf k (by simpa using hk)
   rw[List.getElem?_eq_getElem hk]at this
   simpa only[Bool.not_eq_true] using this
  push_cast -dsimp [hnone]
  exact ⟨[],rfl,rfl,by push_cast -dsimp [zb,za,CLe,zd,Option.getD_none,Option.isSome_none]⟩
end
end Go.Proofs.YtiblepfehggicaaGreatDoor.Vcg
