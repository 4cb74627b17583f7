/- The statement of DraftLeads is proved: for every input the law answers true, and each argument reads behind the call as it read before. Condition: none but what the row itself prints. -/
import Derived.Test.YtiblepfehggicaaGreatDoorDraftLeadsKe
import Derived.Test.YtiblepfehggicaaGreatDoorCards
import Derived.Test.YtiblepfehggicaaGreatDoorTie
import Derived.WalkKit
import Derived.ProofKit
import Derived.OpenShut
import Derived.ShutString
import Derived.ChangeOld
import Derived.Below
import Derived.LaidMore
import Derived.Lay
import Derived.SevenTiedAt
import Derived.Stop.Joined
set_option linter.unusedVariables false
set_option linter.unusedSimpArgs false
set_option linter.unusedSectionVars false
set_option maxRecDepth 100000
set_option maxHeartbeats 4000000
namespace Go.Proofs.YtiblepfehggicaaGreatDoor.Vcg
section
inductive Bel (xs:List zp) (x:Int):Int->Prop
 | refl:Bel xs x x
 | step {y n:Int}:Bel xs x y->zn y xs=true->(∃ e∈(zh y xs).es,e.ino=n)->Bel xs x n
def zpX (a b:qy) (y:zp) (es:List zZ):Prop:=∀ e∈es,(e=⟨b.name,a.ino⟩/\y.ino=b.dir)∨(e∈y.es/\(y.ino=a.dir->e.name≠a.name))
theorem zmu {f:FsV} (hi:FsI f) {a b:qy} (ha:zR f a) (hb:Jw f b) {z:zp} (hz:z∈qk b.dir (zN b.name a.ino) (qk a.dir (zj a.name) f.xs)):∃ y∈f.xs,∃ es,z=qi y es/\zpX a b y es:=by
 have hda:=zk ha.has
 have hdb:=zk hb.has
 have hb1:zn b.dir (qk a.dir (zj a.name) f.xs)=true:=by rw[zU ha.has];exact hb.has
 have g1:∀ {z:zp},z∈qk a.dir (zj a.name) f.xs->∃ y∈f.xs,∃ es,z=qi y es/\∀ e∈es,e∈y.es/\(y.ino=a.dir->e.name≠a.name):=fun {z} hz=>by
  rcases (qA ha.has).1 hz with rfl | ⟨hz,hne⟩
  ·exact ⟨_,hda.2.1,_,rfl,fun e he=>⟨(ja he).1,fun _=>(ja he).2⟩⟩
  ·exact ⟨z,hz,z.es,rfl,fun e he=>⟨he,fun q=>absurd q hne⟩⟩
 rcases (qA hb1).1 hz with rfl | ⟨hz,hne⟩
 ·obtain ⟨y,hy,es,e1,e2⟩:=g1 (zk hb1).2.1
  have hyb:y.ino=b.dir:=by
   have:=(zk hb1).2.2
   rw[e1]at this;exact this
  refine ⟨y,hy,zN b.name a.ino es,by rw[e1],fun e he=>?_⟩
  rcases J0 he with rfl | he
  ·exact .inl ⟨rfl,hyb⟩
  ·exact .inr (e2 e he)
 ·obtain ⟨y,hy,es,e1,e2⟩:=g1 hz
  exact ⟨y,hy,es,e1,fun e he=>.inr (e2 e he)⟩
theorem zd2 {f:FsV} {a b:qy} (ha:zR f a) (hb:Jw f b) (m:Int):(zh m (qk b.dir (zN b.name a.ino) (qk a.dir (zj a.name) f.xs))).kind=(zh m f.xs).kind/\(zh m (qk b.dir (zN b.name a.ino) (qk a.dir (zj a.name) f.xs))).parent=(zh m f.xs).parent:=by
 have hb1:zn b.dir (qk a.dir (zj a.name) f.xs)=true:=by rw[zU ha.has];exact hb.has
 obtain ⟨q1,q2,_⟩:=jD (m:=m) (F:=zN b.name a.ino) hb1
 obtain ⟨q3,q4,_⟩:=jD (m:=m) (F:=zj a.name) ha.has
 exact ⟨q1.trans q3,q2.trans q4⟩
theorem uK {f:FsV} (hi:FsI f) (h:FsR f) {a:qy} (ha:zR f a) (hk:(zh a.ino f.xs).kind=2) {y:zp} (hy:y∈f.xs) {e:zZ} (he:e∈y.es) (hn:y.ino=a.dir->e.name≠a.name):e.ino≠a.ino:=fun q=>by
 have hh:=zR.ino hi ha
 have hx:=zk hh
 have hd:=zk ha.has
 have hl:=(h.node _ hx.2.1).one hk (by rw[hx.2.2];exact Qg hi ha)
 have hlk:=hi.links _ hx.2.1
 rw[hx.2.2,hl]at hlk
 have hc:=QK (m:=a.ino) (F:=zj a.name) hi.rises ha.has
 have hw:JV a.ino (zh a.dir f.xs)=JV a.ino (qi (zh a.dir f.xs) (zj a.name (zh a.dir f.xs).es))+if a.ino=a.ino then 1 else 0:=Qb (m:=a.ino) (i:=a.ino) (x:=zh a.dir f.xs) (hi.es (zh a.dir f.xs) hd.2.1) ha.there
 rw[if_pos rfl]at hw
 have h0:JU a.ino (qk a.dir (zj a.name) f.xs)=0:=by omega
 by_cases hya:y.ino=a.dir
 ·have e1:y=zh a.dir f.xs:=Ml hi.rises hy hd.2.1 (by rw[hd.2.2];exact hya)
  refine Ze h0 _ ((qA ha.has).2 (.inl rfl)) e ?_ q
  exact ZA.2 ⟨by rw[←e1];exact he,hn hya⟩
 ·exact Ze h0 y ((qA ha.has).2 (.inr ⟨hy,hya⟩)) e he q
open Classical in
theorem znn {f:FsV} (hi:FsI f) (h:FsR f) {a b:qy} (ha:zR f a) (hb:Jw f b) (hm:may b.name=true) (hnb:(zh a.ino f.xs).kind=2->¬Bel f.xs a.ino b.dir):FsR (Yp f a b):=by
 have hh:=zR.ino hi ha
 have hx:=zk hh
 have hr1:=Qg hi ha
 have hb1:zn b.dir (qk a.dir (zj a.name) f.xs)=true:=by rw[zU ha.has];exact hb.has
 have hR1:z7 (qk a.dir (zj a.name) f.xs):=z6 hi.rises
 have hR2:z7 (qk b.dir (zN b.name a.ino) (qk a.dir (zj a.name) f.xs)):=z6 hR1
 have hlen:(qk b.dir (zN b.name a.ino) (qk a.dir (zj a.name) f.xs)).length=f.xs.length:=by rw[qP hR1 hb1,qP hi.rises ha.has]
 have hbyt:qd (qk b.dir (zN b.name a.ino) (qk a.dir (zj a.name) f.xs))=qd f.xs:=by rw[Y2 hR1 hb1,Y2 hi.rises ha.has]
 have hha:zn a.ino (qk b.dir (zN b.name a.ino) (qk a.dir (zj a.name) f.xs))=true:=by rw[zU hb1,zU ha.has];exact hh
 have hgm:=zd2 ha hb
 have hmm:∀ {z:zp},z∈qk b.dir (zN b.name a.ino) (qk a.dir (zj a.name) f.xs)->∃ y∈f.xs,∃ es,z=qi y es/\zpX a b y es:=zmu hi ha hb
 have hnode:∀ {y:zp} {es:List zZ},y∈f.xs->zpX a b y es->zkj (qi y es):=fun {y es} hy he=>(h.node y hy).turn fun e hee=>by
  rcases he e hee with ⟨rfl,_⟩ | ⟨q,_⟩
  ·exact hm
  ·exact (h.node y hy).nam e q
 unfold Yp
 simp only
 generalize qk b.dir (zN b.name a.ino) (qk a.dir (zj a.name) f.xs)=g at hR2 hlen hbyt hha hgm hmm
 have hfit:=h.fit
 by_cases hk:(zh a.ino f.xs).kind=2
 ·rw[if_pos (show (zh a.ino g).kind=2 from (hgm a.ino).1.trans hk)]
  have hnb:=hnb hk
  have hxa:=zk hha
  have hhi:zn ({ zh a.ino g with parent:=b.dir }:zp).ino g=true:=by show zn (zh a.ino g).ino g=true;rw[hxa.2.2];exact hha
  have hgot:∀ m,(zh m (qm { zh a.ino g with parent:=b.dir } g)).kind=(zh m f.xs).kind/\(zh m (qm { zh a.ino g with parent:=b.dir } g)).parent=if m=a.ino then b.dir else (zh m f.xs).parent:=fun m=>by
   simp only[qN,hxa.2.2]
   by_cases hq:a.ino=m
   ·rw[if_pos hq,if_pos hq.symm]
    subst hq
    exact ⟨(hgm a.ino).1,rfl⟩
   ·rw[if_neg hq,if_neg (fun q=>hq q.symm)]
    exact hgm m
  have hmem:∀ {z:zp},z∈qm { zh a.ino g with parent:=b.dir } g->∃ y∈f.xs,∃ es,z.ino=y.ino/\z.es=es/\zpX a b y es/\zkj z:=fun {z} hz=>by
   rcases qx.1 hz with rfl | ⟨hz,_⟩
   ·obtain ⟨y,hy,es,e1,e2⟩:=hmm hxa.2.1
    refine ⟨y,hy,es,by rw[e1],by rw[e1],e2,?_⟩
    have hn:=hnode hy e2
    rw[←e1]at hn
    have hka:(zh a.ino g).kind=2:=by rw[(hgm a.ino).1];exact hk
    exact ⟨fun q=>absurd hka q,hn.bare,hn.nam,hn.lnk,hn.named,hn.one,fun q=>by have q:(zh a.ino g).ino=1:=q;rw[hxa.2.2]at q;exact absurd q hr1⟩
   ·obtain ⟨y,hy,es,e1,e2⟩:=hmm hz
    exact ⟨y,hy,es,by rw[e1],by rw[e1],e2,by rw[e1];exact hnode hy e2⟩
  obtain ⟨rk,hrk⟩:=h.edge
  refine ⟨fun z hz=>(hmem hz).choose_spec.2.choose_spec.2.2.2,⟨fun n=>if Bel f.xs a.ino n then rk n+rk b.dir+1 else rk n,fun z hz e he hke=>?_⟩,?_,h.lim⟩
  ·obtain ⟨y,hy,es,e1,e2,e3,_⟩:=hmem hz
   have hke:(zh e.ino (qm { zh a.ino g with parent:=b.dir } g)).kind=2:=hke
   rw[(hgot _).1]at hke
   show (zh e.ino (qm { zh a.ino g with parent:=b.dir } g)).parent=z.ino/\(if Bel f.xs a.ino z.ino then _ else _)<(if Bel f.xs a.ino e.ino then _ else _)
   rw[(hgot _).2,e1]
   rcases e3 e (by rw[←e2];exact he) with ⟨rfl,hyb⟩ | ⟨hey,hna⟩
   ·rw[hyb,if_neg hnb]
    show (if a.ino=a.ino then _ else _)=_/\_<(if Bel f.xs a.ino a.ino then rk a.ino+rk b.dir+1 else _)
    rw[if_pos rfl,if_pos Bel.refl]
    exact ⟨rfl,by omega⟩
   ·have hne:=uK hi h ha hk hy hey hna
    obtain ⟨p1,p2⟩:=hrk y hy e hey hke
    rw[if_neg hne]
    refine ⟨p1,?_⟩
    have hs:=YT hi hy
    have hiff:Bel f.xs a.ino e.ino↔Bel f.xs a.ino y.ino:=by
     constructor
     ·intro hB
      generalize hn:e.ino=n at hB
      cases hB with
      | refl=>exact absurd hn hne
      | step hB1 hv hed =>
       rename_i y'
       obtain ⟨e',he',q⟩:=hed
       have:=(hrk _ (zk hv).2.1 e' he' (by rw[q,←hn];exact hke)).1
       rw[q,←hn,p1,(zk hv).2.2]at this
       rw[this];exact hB1
     ·intro hB
      exact .step hB (YD hy) ⟨e,by rw[hs];exact hey,rfl⟩
    by_cases hB:Bel f.xs a.ino y.ino
    ·rw[if_pos hB,if_pos (hiff.2 hB)];omega
    ·rw[if_neg hB,if_neg (fun q=>hB (hiff.1 q))];exact p2
  ·have hb2:=X9 hR2 hhi
   have e1:bN (zh ({ zh a.ino g with parent:=b.dir }:zp).ino g)=bN { zh a.ino g with parent:=b.dir }:=by
    show bN (zh (zh a.ino g).ino g)=_
    rw[hxa.2.2];rfl
   rw[e1]at hb2
   have hb3:=Nat.add_right_cancel hb2
   show ((qm _ _).length:Int)<=f.maxI/\(qd (qm _ _):Int)<=f.maxB
   rw[JH hR2 hhi,hlen,hb3,hbyt]
   exact hfit
 ·rw[if_neg (show ¬(zh a.ino g).kind=2 from fun q=>hk ((hgm a.ino).1.symm.trans q))]
  refine h.like (fun z hz=>?_) (fun z hz e he hke=>?_) rfl rfl (by show g.length<=_;omega) (by show (qd g:Int)<=_;omega)
  ·obtain ⟨y,hy,es,rfl,e2⟩:=hmm hz
   exact hnode hy e2
  ·obtain ⟨y,hy,es,rfl,e2⟩:=hmm hz
   have hke:(zh e.ino g).kind=2:=hke
   rw[(hgm _).1]at hke
   rcases e2 e he with ⟨rfl,_⟩ | ⟨q,_⟩
   ·exact absurd hke hk
   ·exact ⟨y,hy,rfl,q,hke,(hgm _).2⟩
end
section
inductive Mb (xs:List zp):List (List UInt8)->Int->Prop
 | root:Mb xs [] 1
 | step {ns:List (List UInt8)} {y n:Int} {m:List UInt8}:Mb xs ns y->zn y xs=true->(zh y xs).kind=2->j7 zZ.name m (zh y xs).es=some ⟨m,n⟩->Mb xs (ns++[m]) n
theorem Mb.inv {xs:List zp} {ns:List (List UInt8)} {n:Int} (h:Mb xs ns n):(ns = []/\n=1)∨∃ ms y m,ns=ms++[m]/\Mb xs ms y/\zn y xs=true/\(zh y xs).kind=2/\j7 zZ.name m (zh y xs).es=some ⟨m,n⟩:=by
 cases h with
 | root=>exact .inl ⟨rfl,rfl⟩
 | step h1 h2 h3 h4=>exact .inr ⟨_,_,_,rfl,h1,h2,h3,h4⟩
theorem N4 {f:FsV} (hi:FsI f) (h:FsR f) {x y z:Int} {m k:List UInt8} (hx:(zh x f.xs).kind=2) (hy:zn y f.xs=true) (hyk:(zh y f.xs).kind=2) (h1:j7 zZ.name m (zh y f.xs).es=some ⟨m,x⟩) (hz:zn z f.xs=true) (h2:∃ e∈(zh z f.xs).es,e.name=k/\e.ino=x):z=y/\k=m:=by
 obtain ⟨e,he,rfl,q⟩:=h2
 obtain ⟨rk,hr⟩:=h.edge
 have gy:=zk hy
 have gz:=zk hz
 have p1:=(hr _ gy.2.1 ⟨m,x⟩ (qJ h1).2 hx).1
 have p2:=(hr _ gz.2.1 e he (by rw[q];exact hx)).1
 rw[q,gz.2.2]at p2
 rw[gy.2.2]at p1
 have hzy:z=y:=p2.symm.trans p1
 refine ⟨hzy,Classical.byContradiction fun hne=>?_⟩
 subst hzy
 exact uK hi h (a:=⟨z,m,x⟩) ⟨hy,hyk,h1⟩ hx gy.2.1 he (fun _=>hne) q
theorem yV {f:FsV} (hi:FsI f) {y:Int} (hy:zn y f.xs=true) {e:zZ} (he:e∈(zh y f.xs).es):e.ino≠1:=Ze hi.bare _ (zk hy).2.1 e he
theorem Mb.one {f:FsV} (hi:FsI f) (h:FsR f):∀ {ms ns:List (List UInt8)} {x:Int},Mb f.xs ms x->Mb f.xs ns x->(zh x f.xs).kind=2->ms=ns:=by
 intro ms ns x h1
 induction h1 generalizing ns with
 | root =>
  intro h2 hk
  rcases h2.inv with ⟨e,_⟩ | ⟨ms,y,m,e,_,g1,g2,g3⟩
  ·exact e.symm
  ·exact absurd rfl (yV hi g1 (qJ g3).2)
 | step a1 a2 a3 a4 ih =>
  intro h2 hk
  rcases h2.inv with ⟨e,e1⟩ | ⟨ms,y,m,rfl,g0,g1,g2,g3⟩
  ·exact absurd e1 (yV hi a2 (qJ a4).2)
  ·obtain ⟨rfl,rfl⟩:=N4 hi h hk a2 a3 a4 g1 ⟨_,(qJ g3).2,rfl,rfl⟩
   rw[ih g0 a3]
theorem Bel.lead {f:FsV} (hi:FsI f) (h:FsR f) {x:Int} {ns:List (List UInt8)} (hn:Mb f.xs ns x):∀ {m:Int} {ms:List (List UInt8)},Bel f.xs x m->Mb f.xs ms m->(zh m f.xs).kind=2->∃ r,ms=ns++r:=by
 intro m ms hB
 induction hB generalizing ms with
 | refl=>intro h1 hk;exact ⟨[],by rw[List.append_nil];exact Mb.one hi h h1 hn hk⟩
 | step b1 b2 b3 ih =>
  intro h1 hk
  obtain ⟨e,he,q⟩:=b3
  rcases h1.inv with ⟨_,e1⟩ | ⟨ms',y',k,rfl,g0,g1,g2,g3⟩
  ·exact absurd (q.trans e1) (yV hi b2 he)
  ·obtain ⟨rfl,_⟩:=N4 hi h hk g1 g2 g3 b2 ⟨e,he,rfl,q⟩
   obtain ⟨r,hr⟩:=ih g0 g2
   exact ⟨r++[k],by rw[hr,List.append_assoc]⟩
theorem G7 {f:FsV} (hi:FsI f):∀ (ns pre:List (List UInt8)) (s:qy),(s.ino≠0->Mb f.xs pre s.ino/\zn s.ino f.xs=true)->(atW f.xs ns s).2=0->ns≠[] ->
  ∃ ms,ns=ms++[(atW f.xs ns s).1.name]/\Mb f.xs (pre++ms) (atW f.xs ns s).1.dir
 | [],pre,s,_,_,h=>absurd rfl h
 | n :: r,pre,s,hs,h0,_=>by
  unfold atW at h0 ⊢
  by_cases h1:s.ino=0
  ·rw[if_pos h1]at h0;cases h0
  rw[if_neg h1]at h0 ⊢
  by_cases h2:(zh s.ino f.xs).kind≠2
  ·rw[if_pos h2]at h0;cases h0
  rw[if_neg h2]at h0 ⊢
  have h2:(zh s.ino f.xs).kind=2:=Classical.not_not.1 h2
  obtain ⟨g1,g2⟩:=hs h1
  have hg:=zk g2
  cases r with
  | nil =>
   unfold atW
   refine ⟨[],rfl,?_⟩
   rw[List.append_nil]
   show Mb f.xs pre (zh s.ino f.xs).ino
   rw[hg.2.2];exact g1
  | cons m r =>
   obtain ⟨ms,e1,e2⟩:=G7 hi (m :: r) (pre++[n]) ⟨(zh s.ino f.xs).ino,n,jG n (zh s.ino f.xs).es⟩ (fun hne=>by
    have hne:jG n (zh s.ino f.xs).es≠0:=hne
    have hh:VJ n (zh s.ino f.xs).es=true:=by
     unfold VJ
     rw[jz]
     cases hq:j7 zZ.name n (zh s.ino f.xs).es with
     | some e=>rfl
     | none=>unfold jG at hne;rw[hq]at hne;exact absurd rfl hne
    exact ⟨.step g1 g2 h2 (Qi hh),GX hi g2 hh⟩) h0 (by simp)
   refine ⟨n :: ms,by rw[List.cons_append,←e1],?_⟩
   rw[List.append_assoc]at e2
   exact e2
theorem zfI {f:FsV} (hi:FsI f) (h:FsR f) {p q:List UInt8} (hp:zM p=true) (hq:zM q=true) (h1:(isV f p true).2.2=0) (h2:(isV f q false).2.2=0) (hu:Yy q p=false) (hk:(zh (isV f p true).1.ino f.xs).kind=2):¬Bel f.xs (isV f p true).1.ino (isV f q false).1.dir:=fun hB=>by
 have hta:=(qT hi hp h1).1
 have hfb:=jX hi hq h2
 unfold zM at hp hq
 simp only[Bool.and_eq_true,Bool.not_eq_true',decide_eq_false_iff_not]at hp hq
 have root:(1:Int)≠0->Mb f.xs [] 1/\zn 1 f.xs=true:=fun _=>⟨.root,hi.root⟩
 have ea:(isV f p true).1=(atW f.xs (zI p) ⟨0,[],1⟩).1:=by show (atV f p).1=_;unfold atV;rw[if_pos hp.1]
 have eb:(isV f q false).1=(atW f.xs (zI q) ⟨0,[],1⟩).1:=by show (atV f q).1=_;unfold atV;rw[if_pos hq.1]
 have za:(atW f.xs (zI p) ⟨0,[],1⟩).2=0:=by have:=Xs h1;unfold atV at this;rwa [if_pos hp.1]at this
 have zb:(atW f.xs (zI q) ⟨0,[],1⟩).2=0:=by have:=Xs h2;unfold atV at this;rwa [if_pos hq.1]at this
 obtain ⟨ma,a1,a2⟩:=G7 hi (zI p) [] ⟨0,[],1⟩ root za hp.2
 obtain ⟨mb,b1,b2⟩:=G7 hi (zI q) [] ⟨0,[],1⟩ root zb hq.2
 rw[←ea]at a1 a2
 rw[←eb]at b1 b2
 have la:Mb f.xs (zI p) (isV f p true).1.ino:=by
  rw[a1]
  exact .step a2 hta.has hta.kind hta.there
 obtain ⟨r,hr⟩:=Bel.lead hi h la hB b2 hfb.kind
 have hr:mb=zI p++r:=hr
 have hn:zI q=zI p++(r++[(isV f q false).1.name]):=by rw[b1,hr,List.append_assoc]
 have hu2:=U1 (zI q) (zI p) (fun x hx=>Q7 hx) (fun x hx=>Q7 hx)
 rw[Xu hp.1,Xu hq.1,hu,hn,List.take_left'  rfl]at hu2
 simp at hu2
end
section
structure MR (w:qg):Prop where
 fs:FsR w.fs
 pool:∀ x∈w.pool,qC w x
 slots:∀ k∈w.kept,1<=k.slot
 kept:∀ k∈w.kept,Xx w k
theorem zql {w:qg} (h:okW w):MR w:=⟨zew ⟨h.1.2.1,h.2.1⟩,h.2.2.2.1,h.2.2.2.2.1.2,h.2.2.2.2.2⟩
theorem MR.right {w:qg} (hi:J9 w) (h:MR w) (hn:w.fs.next<=1099511627776):YX w:=⟨h.fs.check hi.fs hn,hi.pool,h.pool,⟨hi.kept,h.slots⟩,h.kept⟩
theorem zp3 {w:qg} (h:MR w) {g:FsV} (hg:FsR g) (hn:w.fs.next<=g.next) (hp:∀ x∈w.pool,zn x.ino g.xs=false) (hk:∀ m,zn m w.fs.xs=true->zn m g.xs=true/\(zh m g.xs).kind=(zh m w.fs.xs).kind):MR { w with fs:=g }:=by
 refine ⟨hg,fun x hx=>?_,h.slots,fun k hkk=>?_⟩
 ·obtain ⟨q1,q2,q3,q4⟩:=h.pool x hx
  exact ⟨hp x hx,q2,by show x.ino<g.next;omega,q4⟩
 ·obtain ⟨q1,q2,q3,q4⟩:=h.kept k hkk
  refine ⟨q1,q2.imp (fun q=>(hk _ q).1) id,fun hc=>?_,q4⟩
  have:=q3 hc
  show (if zn k.ino w.pool=true then zh k.ino w.pool else zh k.ino g.xs).kind=1
  by_cases hq:zn k.ino w.pool=true
  ·rw[if_pos hq]at this ⊢;exact this
  ·rw[if_neg hq]at this ⊢
   rw[(hk _ (q2.resolve_right hq)).2];exact this
theorem zeT {w:qg} (hi:J9 w) (h:MR w) {p:List UInt8} (hp:zM p=true) {k:Int} (hk:k=1∨k=2∨k=3) {t:List UInt8} (h2:k=2->t = []) (h3:k=3->1<=t.length/\t.length<=4095/\∀ b∈t,b≠0):MR (j0 w p k t).1:=by
 unfold j0
 by_cases hz:(isV w.fs p false).2.2≠0
 ·rw[if_pos hz];exact h
 rw[if_neg hz]
 have hs:=jX hi.fs hp (Classical.not_not.1 hz)
 obtain ⟨n1,n2⟩:=GC hi.fs
 show MR { w with fs:=(Q3 w.fs (isV w.fs p false).1 k t).1 }
 unfold Q3
 by_cases hm:may (isV w.fs p false).1.name=true
 case neg=>rw[if_neg hm];exact h
 rw[if_pos hm]
 by_cases hr:jS w.fs 1 (if k=1 then (t.length:Int) else 0)=true
 case neg=>rw[if_neg hr];exact h
 rw[if_pos hr]
 have hhas:∀ m,zn m (ko w.fs (isV w.fs p false).1 k t).xs=(decide (w.fs.next=m)||zn m w.fs.xs):=fun m=>by
  show zn m (qm _ _)=_
  rw[qV,zU hs.has]
 refine zp3 h (zny hi.fs h.fs hs hm hk hr h2 h3) (by show w.fs.next<=w.fs.next+1;omega) (fun x hx=>?_) (fun m hh=>⟨by rw[hhas,hh,Bool.or_true],?_⟩)
 ·rw[hhas,(hi.apart x hx).1,Bool.or_false]
  exact decide_eq_false (by have:=(hi.apart x hx).2;omega)
 ·have hne:w.fs.next≠m:=fun e=>by rw[←e,n1]at hh;cases hh
  show (zh m (qm _ _)).kind=_
  rw[qN,if_neg hne]
  exact (jD hs.has).1
theorem JG {k z:zP} {ks:List zP}:z∈qv k ks↔z=k∨z∈ks:=Qm
theorem Ux {w w':qg} {x:zp} (h:qC w x) (h1:zn x.ino w'.fs.xs=false) (h2:w.fs.next<=w'.fs.next) (h3:∀ k∈w.kept,k∈w'.kept):qC w' x:=by
 obtain ⟨q1,q2,q3,q4,q5,q6,q7,q8,q9,q10⟩:=h
 refine ⟨h1,q2,by omega,q4,q5,q6,q7,q8,q9,?_⟩
 rw[List.any_eq_true]at q10 ⊢
 obtain ⟨k,hk,e⟩:=q10
 exact ⟨k,h3 k hk,e⟩
theorem zou {w:qg} (hi:J9 w) (h:MR w) {n:Int} (h1:1<=n) (h2:n<=1073741824) {s:qy} (hs:zR w.fs s) (he:(zh s.ino w.fs.xs).es = []):MR (JA w n s).1:=by
 have hI:=zdA hi (n:=n) hs he
 unfold JA at hI ⊢
 cases hn:U0 n w.kept with
 | true=>rw[if_pos rfl];exact h
 | false =>
  rw[hn,if_neg (by simp)]at hI
  rw[if_neg (by simp)]
  have hh:=zR.ino hi.fs hs
  have hx:=zk hh
  have hnd:=h.fs.node _ hx.2.1
  have hr:=zjL hi.fs h.fs hs he
  have hhas:=Z5 hs.has hh
  have hnp:zn s.ino w.pool=false:=by
   rw[Bool.eq_false_iff]
   intro hq
   have:=(hi.apart _ (zk hq).2.1).1
   rw[(zk hq).2.2,hh]at this;cases this
  have hgk:∀ m,zn m (zD w.fs s).xs=true->(zh m (zD w.fs s).xs).kind=(zh m w.fs.xs).kind:=fun m hm=>by
   unfold zD at hm ⊢
   by_cases hl:(zh s.ino w.fs.xs).links-1=0
   ·rw[if_pos hl]at hm ⊢
    have hm:zn m (qj _ _)=true:=hm
    show (zh m (qj _ _)).kind=_
    rw[XX]at hm
    rw[U4,if_neg (fun e=>by rw[e]at hm;simp at hm)]
    exact (jD hs.has).1
   ·rw[if_neg hl]
    show (zh m (qm _ _)).kind=_
    rw[qN]
    split
    ·rename_i e
     have e:(zh s.ino w.fs.xs).ino=m:=e
     rw[hx.2.2]at e;subst e;rfl
    ·exact (jD hs.has).1
  by_cases hl:(zh s.ino w.fs.xs).links=1
  ·rw[if_pos hl]at hI ⊢
   have hhp:∀ m,zn m (qm { zh s.ino w.fs.xs with links:=0,parent:=0 } w.pool)=(decide (s.ino=m)||zn m w.pool):=fun m=>by
    rw[qV]
    show (decide ((zh s.ino w.fs.xs).ino=m)||_)=_
    rw[hx.2.2]
   refine ⟨hr,fun x hxx=>?_,fun k hk=>?_,fun k hk=>?_⟩
   ·have ha:=(hI.apart x hxx).1
    rcases qx.1 hxx with rfl | ⟨hxp,_⟩
    ·have hir:=hi.fs.ino _ hx.2.1
     refine ⟨ha,hir.1,by show _<(zD w.fs s).next;rw[J8];exact hir.2,rfl,rfl,he,hi.fs.kind (zh s.ino w.fs.xs) hx.2.1,hnd.bare,hnd.lnk,?_⟩
     rw[List.any_eq_true]
     refine ⟨_,JG.2 (.inl rfl),?_⟩
     show (decide (s.ino=(zh s.ino w.fs.xs).ino)&&!false)=true
     rw[hx.2.2];simp
    ·exact Ux (h.pool x hxp) ha (by show w.fs.next<=(zD w.fs s).next;rw[J8];exact Int.le_refl _) fun k hk=>JG.2 (.inr hk)
   ·rcases JG.1 hk with rfl | hk
    ·exact h1
    ·exact h.slots k hk
   ·rcases JG.1 hk with rfl | hk
    ·exact ⟨h2,.inr (by show zn s.ino _=true;rw[hhp];simp),fun q=>(by cases q),fun _=>rfl⟩
    ·obtain ⟨q1,q2,q3,q4⟩:=h.kept k hk
     refine ⟨q1,?_,fun hc=>?_,q4⟩
     ·show zn k.ino (zD w.fs s).xs=true∨zn k.ino _=true
      rw[hhp,hhas,if_pos (by omega)]
      by_cases e:k.ino=s.ino
      ·right;rw[e];simp
      ·rcases q2 with q2 | q2
       ·left;rw[q2,decide_eq_false e];rfl
       ·right;rw[q2,Bool.or_true]
     ·have:=q3 hc
      show (if zn k.ino _=true then zh k.ino _ else zh k.ino (zD w.fs s).xs).kind=1
      by_cases e:s.ino=k.ino
      ·rw[if_pos (by rw[hhp,decide_eq_true e];rfl),qN,if_pos (by rw[←e];exact hx.2.2)]
       rw[←e,hnp,if_neg (by simp)]at this
       exact this
      ·rw[hhp,decide_eq_false e,Bool.false_or]
       have e5:zh k.ino (qm { zh s.ino w.fs.xs with links:=0,parent:=0 } w.pool)=zh k.ino w.pool:=by
        rw[qN]
        exact if_neg fun q=>e (hx.2.2.symm.trans q)
       rw[e5]
       by_cases hq:zn k.ino w.pool=true
       ·rw[if_pos hq]at this ⊢;exact this
       ·rw[if_neg hq]at this ⊢
        have q5:=q2.resolve_right hq
        rw[hgk _ (by rw[hhas,if_pos (by omega),q5,decide_eq_false (fun q=>e q.symm)];rfl)];exact this
  ·rw[if_neg hl]at hI ⊢
   have hall:∀ m,zn m (zD w.fs s).xs=zn m w.fs.xs:=fun m=>by rw[hhas,if_neg (by omega)]
   refine ⟨hr,fun x hxx=>?_,fun k hk=>?_,fun k hk=>?_⟩
   ·exact Ux (h.pool x hxx) (hI.apart x hxx).1 (by show w.fs.next<=(zD w.fs s).next;rw[J8];exact Int.le_refl _) fun k hk=>JG.2 (.inr hk)
   ·rcases JG.1 hk with rfl | hk
    ·exact h1
    ·exact h.slots k hk
   ·rcases JG.1 hk with rfl | hk
    ·exact ⟨h2,.inl (by show zn s.ino (zD w.fs s).xs=true;rw[hall];exact hh),fun q=>(by cases q),fun _=>rfl⟩
    ·obtain ⟨q1,q2,q3,q4⟩:=h.kept k hk
     refine ⟨q1,?_,fun hc=>?_,q4⟩
     ·show zn k.ino (zD w.fs s).xs=true∨_
      rw[hall];exact q2
     ·have:=q3 hc
      show (if zn k.ino w.pool=true then zh k.ino w.pool else zh k.ino (zD w.fs s).xs).kind=1
      by_cases hq:zn k.ino w.pool=true
      ·rw[if_pos hq]at this ⊢;exact this
      ·rw[if_neg hq]at this ⊢
       rw[hgk _ (by rw[hall];exact q2.resolve_right hq)];exact this
theorem zgI {f:FsV} {i:Int} {t:List UInt8} (hh:zn i f.xs=true) (m:Int):zn m (YS f i t).xs=zn m f.xs/\(zh m (YS f i t).xs).kind=(zh m f.xs).kind:=by
 have hx:=zk hh
 constructor
 ·show zn m (qm _ _)=_
  rw[qV]
  show (decide ((zh i f.xs).ino=m)||_)=_
  rw[hx.2.2]
  by_cases e:i=m
  ·subst e;rw[hh];simp
  ·simp[e]
 ·show (zh m (qm _ _)).kind=_
  rw[qN]
  split
  ·rename_i e
   have e:(zh i f.xs).ino=m:=e
   rw[hx.2.2]at e;subst e;rfl
  ·rfl
theorem zeV {w:qg} (hi:J9 w) (h:MR w) {o:OpV} (ha:zM o.a=true) (hb:zM o.b=true) (h1:1<=o.slot) (h2:o.slot<=1073741824):MR (zS w o).1:=by
 unfold zS
 by_cases z1:(zL w.fs o.a).2≠0
 ·rw[if_pos z1];exact h
 rw[if_neg z1]
 by_cases z2:(zL w.fs o.b).2≠0
 ·rw[if_pos z2];exact h
 rw[if_neg z2]
 by_cases z3:(zL w.fs o.a).1.ino=(zL w.fs o.b).1.ino
 ·rw[if_pos z3];exact h
 rw[if_neg z3]
 by_cases z4:(zV w o.slot (zL w.fs o.b).1.ino).2≠0
 ·rw[if_pos z4];exact h
 rw[if_neg z4]
 by_cases z5:(Js w.fs (zL w.fs o.b).1.ino (zL w.fs o.a).1.data).2≠0
 ·rw[if_pos z5];exact h
 rw[if_neg z5]
 obtain ⟨f1,f2,f3⟩:=X4 hi.fs hb (Classical.not_not.1 z2)
 generalize (zL w.fs o.b).1.ino=i at *
 generalize (zL w.fs o.a).1.data=t at *
 have hk1:(zh i w.fs.xs).kind=1:=by rw[←f3];exact f2
 have hnp:zn i w.pool=false:=by
  rw[Bool.eq_false_iff]
  intro hq
  have:=(hi.apart _ (zk hq).2.1).1
  rw[(zk hq).2.2,f1]at this;cases this
 have e1:(zV w o.slot i).1 = { w with kept:=qv ⟨o.slot,i,true,(zh i w.fs.xs).data⟩ w.kept }:=by
  unfold zV at z4 ⊢
  split
  ·rename_i hq;rw[if_pos hq]at z4;exact absurd (show (13:Int)≠0 by decide) z4
  ·rfl
 have hr:jS w.fs 0 ((t.length:Int)-(zh i w.fs.xs).data.length)=true:=by
  unfold Js at z5
  cases hq:jS w.fs 0 ((t.length:Int)-(zh i w.fs.xs).data.length) with
  | true=>rfl
  | false=>rw[hq,if_neg (by simp)]at z5;exact absurd (show (8:Int)≠0 by decide) z5
 have e2:(Js w.fs i t).1=YS w.fs i t:=by unfold Js;rw[if_pos hr]
 rw[e1,e2]
 show MR ⟨YS w.fs i t,qv ⟨o.slot,i,true,(zh i w.fs.xs).data⟩ w.kept,w.pool⟩
 have hg:=zgI (t:=t) f1
 refine ⟨znw hi.fs h.fs f1 hk1 hr,fun x hx=>?_,fun k hk=>?_,fun k hk=>?_⟩
 ·exact Ux (h.pool x hx) (by show zn x.ino (YS w.fs i t).xs=false;rw[(hg _).1];exact (hi.apart x hx).1) (Int.le_refl _) fun k hk=>JG.2 (.inr hk)
 ·rcases JG.1 hk with rfl | hk
  ·exact h1
  ·exact h.slots k hk
 ·rcases JG.1 hk with rfl | hk
  ·refine ⟨h2,.inl (by show zn i (YS w.fs i t).xs=true;rw[(hg _).1];exact f1),fun _=>?_,fun q=>(by cases q)⟩
   show (if zn i w.pool=true then zh i w.pool else zh i (YS w.fs i t).xs).kind=1
   rw[hnp,if_neg (by simp),(hg i).2];exact hk1
  ·obtain ⟨q1,q2,q3,q4⟩:=h.kept k hk
   refine ⟨q1,?_,fun hc=>?_,q4⟩
   ·show zn k.ino (YS w.fs i t).xs=true∨_
    rw[(hg _).1];exact q2
   ·have:=q3 hc
    show (if zn k.ino w.pool=true then zh k.ino w.pool else zh k.ino (YS w.fs i t).xs).kind=1
    by_cases hq:zn k.ino w.pool=true
    ·rw[if_pos hq]at this ⊢;exact this
    ·rw[if_neg hq]at this ⊢
     rw[(hg _).2];exact this
end
section
theorem zjV {f:FsV} (hf:FsI f) {p:List UInt8} (hp:zM p=true) {b:Bool} (h:(isV f p b).2.2=0):may (isV f p b).1.name=true:=by
 have h1:=(zhq hf hp (Xs h)).2.2.2
 unfold zM Yk at hp
 simp only[Bool.and_eq_true]at hp
 exact List.all_eq_true.1 hp.1.2 _ h1
theorem ziE {o:OpV} (h:XH o=true):(qX o.kind=true->1<=o.slot/\o.slot<=1073741824)/\(o.kind=4->JR o.d=true)/\(o.kind=6->Yy o.b o.a=false):=by
 unfold XH at h
 simp only[Bool.and_eq_true,decide_eq_true_eq]at h
 obtain ⟨⟨⟨⟨⟨⟨h1,h2⟩,h3⟩,h4⟩,h5⟩,h6⟩,h7⟩:=h
 refine ⟨fun q=>?_,fun q=>?_,fun q=>?_⟩
 ·rw[if_pos q]at h4
  simpa using h4
 ·rw[if_pos q]at h6;exact h6
 ·rw[decide_eq_true q]at h7
  simp at h7
  exact h7.2
theorem zfg {t:List UInt8} (h:JR t=true):1<=t.length/\t.length<=4095/\∀ b∈t,b≠0:=by
 unfold JR at h
 simp only[Bool.and_eq_true,Bool.not_eq_true',decide_eq_false_iff_not,decide_eq_true_eq]at h
 obtain ⟨⟨h1,h2⟩,h3⟩:=h
 refine ⟨List.length_pos_iff.2 h1,h2,fun b hb e=>?_⟩
 rw[List.any_eq_false]at h3
 exact h3 b hb (by simpa using e)
theorem ziQ {f:FsV} {s:qy} (hs:Jw f s) {i:Int} (hh:zn i f.xs=true) (m:Int):zn m (X3 f s i).xs=zn m f.xs/\(zh m (X3 f s i).xs).kind=(zh m f.xs).kind:=by
 have hx:=zk hh
 constructor
 ·show zn m (qm _ _)=_
  rw[qV,zU hs.has]
  show (decide ((zh i f.xs).ino=m)||_)=_
  rw[hx.2.2]
  by_cases e:i=m
  ·subst e;rw[hh];simp
  ·simp[e]
 ·show (zh m (qm _ _)).kind=_
  rw[qN]
  split
  ·rename_i e
   have e:(zh i f.xs).ino=m:=e
   rw[hx.2.2]at e;subst e;rfl
  ·exact (jD hs.has).1
theorem zhf {f:FsV} (hi:FsI f) {a b:qy} (ha:zR f a) (hb:Jw f b) (m:Int):zn m (Yp f a b).xs=zn m f.xs/\(zh m (Yp f a b).xs).kind=(zh m f.xs).kind:=by
 have hb1:zn b.dir (qk a.dir (zj a.name) f.xs)=true:=by rw[zU ha.has];exact hb.has
 have hh:∀ m,zn m (qk b.dir (zN b.name a.ino) (qk a.dir (zj a.name) f.xs))=zn m f.xs:=fun m=>by rw[zU hb1,zU ha.has]
 have hg:=zd2 ha hb
 unfold Yp
 simp only
 generalize qk b.dir (zN b.name a.ino) (qk a.dir (zj a.name) f.xs)=g at hh hg
 split
 ·have hx:=zk (show zn a.ino g=true by rw[hh];exact zR.ino hi ha)
  constructor
  ·show zn m (qm _ _)=_
   rw[qV]
   show (decide ((zh a.ino g).ino=m)||_)=_
   rw[hx.2.2,hh]
   by_cases e:a.ino=m
   ·subst e;rw[zR.ino hi ha];simp
   ·simp[e]
  ·show (zh m (qm _ _)).kind=_
   rw[qN]
   split
   ·rename_i e
    have e:(zh a.ino g).ino=m:=e
    rw[hx.2.2]at e;subst e;exact (hg _).1
   ·exact (hg m).1
 ·exact ⟨hh m,(hg m).1⟩
theorem zrB {w:qg} (hi:J9 w) (h:MR w) (o:OpV) (hk7:o.kind<=7):MR (doV w o).1:=by
 unfold doV
 cases hm:XH o with
 | false=>exact h
 | true =>
  obtain ⟨p1,p2,k1,_⟩:=Y6 hm
  obtain ⟨m1,m2,m3⟩:=ziE hm
  rw[if_neg (by simp)]
  by_cases h1:o.kind=1
  ·rw[if_pos h1];exact zeT hi h p1 (.inr (.inl rfl)) (fun _=>rfl) (fun q=>by cases q)
  rw[if_neg h1]
  by_cases h2:o.kind=2
  ·rw[if_pos h2]
   unfold jM
   split
   ·exact h
   ·exact zeT hi h (p2 (by rw[h2];rfl)) (.inl rfl) (fun q=>by cases q) (fun q=>by cases q)
  rw[if_neg h2]
  by_cases h3:o.kind=3
  ·rw[if_pos h3]
   obtain ⟨q1,q2⟩:=m1 (by rw[h3];rfl)
   exact zeV hi h p1 (p2 (by rw[h3];rfl)) q1 q2
  rw[if_neg h3]
  by_cases h4:o.kind=4
  ·rw[if_pos h4];exact zeT hi h p1 (.inr (.inr rfl)) (fun q=>by cases q) (fun _=>zfg (m2 h4))
  rw[if_neg h4]
  by_cases h5:o.kind=5
  ·rw[if_pos h5]
   have pb:=p2 (by rw[h5];rfl)
   unfold qD
   simp only
   by_cases z1:(isV w.fs o.a true).2.2≠0
   ·rw[if_pos z1];exact h
   rw[if_neg z1]
   obtain ⟨ht,hn⟩:=qT hi.fs p1 (Classical.not_not.1 z1)
   by_cases z2:(isV w.fs o.a true).2.1.kind=2
   ·rw[if_pos z2];exact h
   rw[if_neg z2]
   by_cases z3:(isV w.fs o.b false).2.2≠0
   ·rw[if_pos z3];exact h
   rw[if_neg z3]
   have z3:=Classical.not_not.1 z3
   have hf:=jX hi.fs pb z3
   have hh:=zR.ino hi.fs ht
   rw[hn]at z2 ⊢
   rw[(zk hh).2.2]
   have hg:=ziQ hf hh
   exact zp3 h (zoG hi.fs h.fs hf (zjV hi.fs pb z3) hh z2) (Int.le_refl _) (fun x hx=>by rw[(hg _).1];exact (hi.apart x hx).1) fun m hmm=>⟨by rw[(hg _).1];exact hmm,(hg _).2⟩
  rw[if_neg h5]
  by_cases h6:o.kind=6
  ·rw[if_pos h6]
   have pb:=p2 (by rw[h6];rfl)
   unfold j8
   by_cases z1:(isV w.fs o.a true).2.2≠0
   ·rw[if_pos z1];exact h
   rw[if_neg z1]
   by_cases z3:(isV w.fs o.b false).2.2≠0
   ·rw[if_pos z3];exact h
   rw[if_neg z3]
   have z1:=Classical.not_not.1 z1
   have z3:=Classical.not_not.1 z3
   have ht:=(qT hi.fs p1 z1).1
   have hf:=jX hi.fs pb z3
   have hg:=zhf hi.fs ht hf
   refine zp3 h (znn hi.fs h.fs ht hf (zjV hi.fs pb z3) fun hk=>zfI hi.fs h.fs p1 pb z1 z3 (m3 h6) hk) ?_ (fun x hx=>by rw[(hg _).1];exact (hi.apart x hx).1) fun m hmm=>⟨by rw[(hg _).1];exact hmm,(hg _).2⟩
   unfold Yp
   simp only
   split<;>exact Int.le_refl _
  rw[if_neg h6]
  have h7:o.kind=7:=by omega
  obtain ⟨q1,q2⟩:=m1 (by rw[h7];rfl)
  unfold qr
  simp only
  by_cases z1:(isV w.fs o.a true).2.2≠0
  ·rw[if_pos z1];exact h
  rw[if_neg z1]
  obtain ⟨ht,hn⟩:=qT hi.fs p1 (Classical.not_not.1 z1)
  by_cases z2:(isV w.fs o.a true).2.1.es≠[]
  ·rw[if_pos z2];exact h
  rw[if_neg z2]
  exact zou hi h q1 q2 ht (by rw[←hn];exact Classical.not_not.1 z2)
theorem UF (w:qg) (p:List UInt8) (k:Int) (t:List UInt8):(j0 w p k t).1.fs.next<=w.fs.next+1:=by
 unfold j0
 split
 ·show w.fs.next<=_;omega
 ·show (Q3 w.fs (isV w.fs p false).1 k t).1.next<=_
  rcases Z8 w.fs (isV w.fs p false).1 k t with e | e
  ·rw[e];omega
  ·rw[e];exact Int.le_refl _
theorem zmQ (w:qg) (o:OpV):(doV w o).1.fs.next<=w.fs.next+1:=by
 have h0:w.fs.next<=w.fs.next+1:=by omega
 unfold doV
 split
 ·exact h0
 split
 ·exact UF ..
 split
 ·unfold jM
  split
  ·exact h0
  ·exact UF ..
 split
 ·unfold zS
  split
  ·exact h0
  split
  ·exact h0
  split
  ·exact h0
  split
  ·exact h0
  split
  ·exact h0
  ·show (Js w.fs _ _).1.next<=_
   unfold Js
   split<;>exact h0
 split
 ·exact UF ..
 split
 ·unfold qD
  simp only
  split
  ·exact h0
  split
  ·exact h0
  split
  ·exact h0
  ·exact h0
 split
 ·unfold j8
  split
  ·exact h0
  split
  ·exact h0
  ·show (Yp w.fs _ _).next<=_
   unfold Yp
   simp only
   split<;>exact h0
 ·unfold qr
  simp only
  split
  ·exact h0
  split
  ·exact h0
  ·unfold JA
   split
   ·exact h0
   ·show (zD w.fs _).next<=_
    rw[J8];exact h0
end
section
inductive XO (w:qg):List OpV->qg->Prop
 | nil:XO w [] w
 | snoc {l:List OpV} {v:qg} {o:OpV}:XO w l v->(doV v o).2=0->XO w (l++[o]) (doV v o).1
theorem XO.inv {w:qg} {l:List OpV} {v:qg} (h:XO w l v):(l = []/\v=w)∨∃ k u o,l=k++[o]/\XO w k u/\(doV u o).2=0/\v=(doV u o).1:=by
 cases h with
 | nil=>exact .inl ⟨rfl,rfl⟩
 | snoc h1 h2=>exact .inr ⟨_,_,_,rfl,h1,h2,rfl⟩
theorem XO.at {w:qg}:∀ {l:List OpV} {v:qg},XO w l v->∀ i (h:i<l.length),∃ u,XO w (l.take i) u/\(doV u l[i]).2=0/\XO w (l.take (i+1)) (doV u l[i]).1:=by
 intro l v h
 induction h with
 | nil=>intro i h;exact absurd h (Nat.not_lt_zero _)
 | snoc h1 h2 ih =>
  rename_i l v o
  intro i hi
  rw[List.length_append,List.length_singleton]at hi
  rcases Nat.lt_or_ge i l.length with q | q
  ·obtain ⟨u,g1,g2,g3⟩:=ih i q
   rw[List.getElem_append_left q,List.take_append_of_le_length (by omega),List.take_append_of_le_length (by omega)]
   exact ⟨u,g1,g2,g3⟩
  ·have:i=l.length:=by omega
   subst this
   have e:(l++[o])[l.length]'(by simp)=o:=by simp
   rw[e,List.take_left' rfl,List.take_of_length_le (by simp)]
   exact ⟨v,h1,h2,.snoc h1 h2⟩
theorem zoe {w:qg} {o:OpV} (h:(doV w o).2=0):XH o=true:=by
 cases hm:XH o with
 | true=>rfl
 | false=>unfold doV at h;rw[hm,if_pos (by rfl)]at h;exact absurd h (show ¬(12:Int)=0 by decide)
theorem NZ (l k:List OpV):qL (l++k)=qL l++qL k:=by unfold qL;simp
structure ZS (w:qg) (d:qM):Prop where
 run:XO w d.ops d.w
 may:∀ o∈d.ops,XH o=true/\o.kind<=7
 rise:(qL d.ops).Pairwise (· < ·)
 over:∀ s∈qL d.ops,jy w.kept<s/\s<=d.slot
 last:jy w.kept<=d.slot
 stat:(d.status=1)↔d.diags≠[]
 right:MR d.w
theorem ZS.new {w:qg} (h:MR w):ZS w (zcu w):=⟨.nil,fun o ho=>(by cases ho),.nil,fun s hs=>(by cases hs),Int.le_refl _,⟨fun h=>absurd h (show ¬(0:Int)=1 by decide),fun h=>absurd rfl h⟩,h⟩
theorem ZS.add {w:qg} {d:qM} (hi:J9 d.w) (h0:0<=d.slot) (h:ZS w d) (o:OpV):ZS w (Jt d o).1:=by
 by_cases hz:(Jt d o).2=0
 case neg=>rw[UR hz];exact h
 unfold Jt at hz ⊢
 split at hz
 ·exact absurd hz (show ¬(12:Int)=0 by decide)
 rename_i hk
 rw[if_neg hk]
 split at hz
 ·rename_i hd;exact absurd hz hd
 rename_i hd
 rw[if_neg hd]
 have hk7:(jv d o).kind<=7:=by show o.kind<=7;omega
 have hd:=Classical.not_not.1 hd
 have hm:=zoe hd
 have hsl:(qX (jv d o).kind=true/\qL [jv d o] = [d.slot+1]/\(jv d o).slot=d.slot+1)∨(qL [jv d o] = []/\(jv d o).slot=0):=by
  by_cases q:o.kind=3∨o.kind=7
  ·have e:jv d o = { o with slot:=d.slot+1 }:=by unfold jv;rw[if_pos q]
   rw[e]
   have hs:qX o.kind=true:=by unfold qX;rcases q with q | q<;>rw[q]<;>rfl
   exact .inl ⟨hs,by unfold qL;simp[hs],rfl⟩
  ·have e:jv d o = { o with slot:=0 }:=by unfold jv;rw[if_neg q]
   rw[e]
   have hs:qX o.kind=false:=by
    unfold qX
    rw[decide_eq_false (fun e=>q (.inl e)),decide_eq_false (fun e=>q (.inr e)),decide_eq_false (by omega),decide_eq_false (by omega)];rfl
   exact .inr ⟨by unfold qL;simp[hs],rfl⟩
 refine ⟨.snoc h.run hd,fun x hx=>?_,?_,fun s hs=>?_,?_,h.stat,zrB hi h.right _ hk7⟩
 ·rcases List.mem_append.1 hx with hx | hx
  ·exact h.may x hx
  ·rw[List.mem_singleton.1 hx];exact ⟨hm,hk7⟩
 ·show (qL (d.ops++[jv d o])).Pairwise _
  rw[NZ,List.pairwise_append]
  rcases hsl with ⟨_,e,_⟩ | ⟨e,_⟩
  ·rw[e]
   exact ⟨h.rise,by simp,fun a ha b hb=>by rw[List.mem_singleton.1 hb];have:=(h.over a ha).2;omega⟩
  ·rw[e]
   exact ⟨h.rise,.nil,fun a ha b hb=>by cases hb⟩
 ·have hs:s∈qL (d.ops++[jv d o]):=hs
  rw[NZ]at hs
  show _/\s<=(if 0<(jv d o).slot then (jv d o).slot else d.slot)
  have hl:=h.last
  rcases hsl with ⟨_,e,e2⟩ | ⟨e,e2⟩
  ·rw[e]at hs
   rw[e2,if_pos (by omega)]
   rcases List.mem_append.1 hs with hs | hs
   ·have:=h.over s hs;omega
   ·rw[List.mem_singleton.1 hs];omega
  ·rw[e,List.append_nil]at hs
   rw[e2,if_neg (by omega)]
   exact h.over s hs
 ·show jy w.kept<=(if 0<(jv d o).slot then (jv d o).slot else d.slot)
  have hl:=h.last
  split<;>omega
theorem ZS.tell {w:qg} {d:qM} (h:ZS w d) (x:List UInt8):ZS w (YZ d x):=⟨h.run,h.may,h.rise,h.over,h.last,⟨fun _=>by unfold YZ;simp,fun _=>rfl⟩,h.right⟩
theorem u0 {w:qg} (h:okW w) (hl:jy w.kept<=1073741824) {l:List OpV} (hd:∀ o∈l,o.d.length<=5000):∀ i,ZS w (mkD w l i)/\(mkD w l i).w.fs.next<=w.fs.next+i
 | 0=>⟨.new (zql h),by show w.fs.next<=_;omega⟩
 | i+1=>by
  obtain ⟨ih,ih2⟩:=u0 h hl hd i
  have hB:=zcK h hl hd i
  show ZS w (match l[i]? with | some o=>XL (mkD w l i) i o | none=>mkD w l i)/\(match l[i]? with | some o=>XL (mkD w l i) i o | none=>mkD w l i).w.fs.next<=_
  cases hg:l[i]? with
  | none=>exact ⟨ih,by show (mkD w l i).w.fs.next<=_;omega⟩
  | some o =>
   show ZS w (XL (mkD w l i) i o)/\(XL (mkD w l i) i o).w.fs.next<=_
   unfold XL
   split
   ·exact ⟨ih,by omega⟩
   ·split
    ·refine ⟨ih.add hB.wi hB.slot.1 o,?_⟩
     have hn:=zmQ (mkD w l i).w (jv (mkD w l i) o)
     unfold Jt
     split
     ·show (mkD w l i).w.fs.next<=_;omega
     ·split
      ·show (mkD w l i).w.fs.next<=_;omega
      ·show (doV _ _).1.fs.next<=_;omega
    ·exact ⟨ih.tell _,by show (mkD w l i).w.fs.next<=_;omega⟩
theorem ZS.plan {w:qg} {d:qM} (h:ZS w d):XU d.ops=true:=by
 unfold XU
 rw[Bool.and_eq_true,Bool.not_eq_true',List.any_eq_false,uO]
 refine ⟨fun o ho=>?_,fun j hj=>?_⟩
 ·obtain ⟨q1,q2⟩:=h.may o ho
  unfold X2
  rw[q1,decide_eq_false (by omega)]
  simp
 ·have:=List.pairwise_iff_getElem.1 h.rise j (j+1) (by omega) hj (by omega)
  unfold zm2
  rw[if_neg (by omega),if_pos this]
end
section
open CA CB
open Go.RowKit
def YY (w:qg) (l:List OpV) (i:Nat):qg:=(l.take i).foldl (fun u o=>(doV u o).1) w
theorem XO.fold {w:qg} {l:List OpV} {v:qg} (h:XO w l v):v=l.foldl (fun u o=>(doV u o).1) w:=by
 induction h with
 | nil=>rfl
 | snoc h1 h2 ih=>rw[List.foldl_append,←ih];rfl
theorem XO.worlds {w:qg} {l:List OpV} {v:qg} (h:XO w l v):YY w l l.length=v/\∀ i (hi:i<l.length),(doV (YY w l i) l[i]).2=0/\YY w l (i+1)=(doV (YY w l i) l[i]).1:=by
 refine ⟨by unfold YY;rw[List.take_length];exact h.fold.symm,fun i hi=>?_⟩
 obtain ⟨u,h1,h2,h3⟩:=h.at i hi
 have e1:YY w l i=u:=h1.fold.symm
 rw[e1]
 exact ⟨h2,h3.fold.symm⟩
theorem HT {w:qg} {l:List OpV} {v:qg} (h:XO w l v) (hi:J9 w) (hb:xx 40 w) (hk:∀ o∈l,o.kind<=7) (hd:∀ o∈l,o.d.length<=5000):∀ i,i<=l.length->J9 (YY w l i)/\xx (40+i) (YY w l i)
 | 0,_=>⟨hi,hb⟩
 | i+1,h1=>by
  obtain ⟨g1,g2⟩:=HT h hi hb hk hd i (by omega)
  obtain ⟨_,e⟩:=h.worlds.2 i h1
  have hm:=List.getElem_mem h1
  rw[e]
  exact ⟨zpO g1 _ (hk _ hm),doB g1 g2 _ (hd _ hm) (hk _ hm)⟩
theorem zd3 (w:qg) (l:List OpV) (v:qg) (h:XO w l v) (hi:J9 w) (hb:xx 40 w) (hk:∀ o∈l,o.kind<=7) (hs:∀ o∈l,short o/\o.d.length<=5000) (hl:l.length<=100):Fun Tryz.prog G0 23 [jB w,.sl 5 (Hk l),.sc (.int .i64 (l.length:Nat))] (.tup [jB v,.sc (.int .i64 (l.length:Nat)),.sc (.int .i64 0)]) 0:=by
 have hll:=Xf l
 obtain ⟨e0,hw⟩:=h.worlds
 have hg:=HT h hi hb hk fun o ho=>(hs o ho).2
 refine fof (fun i=>if i=3 then Ut 9 10 else []) Tryz.func23 ?_;dsimp only[Tryz.f23]
 push_cast -dsimp
 refine loop (fun i:Nat=>⟨[(1,.sl 5 (Hk l)),(2,.sc (.int .i64 (l.length:Nat))),(3,.ptr 0 0),(6,.ptr 1 0),(9,.sc (.int .i64 i))],[kI (YY w l i),[.any,.any,.any,.any,.any,.any]],0,0⟩) (fun i=>i<=l.length) (fun i=>l.length-i) 0 (Nat.zero_le _) ?_ ?_
 ·exact wk (h5:=by push_cast -dsimp [ze,zd,CLe,zg,show YY w l 0=w from rfl])
 intro i hi
 by_cases h:i<l.length
 case neg =>
  have hil:i=l.length:=by omega
  subst hil
  push_cast -dsimp [hll,Int.lt_irrefl]
  exact dn (by push_cast -dsimp [ze,zd,CLe,zg,e0])
 have g:=Uf l i h
 obtain ⟨z,e⟩:=hw i h
 obtain ⟨g1,g2⟩:=hg i (by omega)
 have hm:=List.getElem_mem h
 have hdo:=y6 (YY w l i) g1 (g2.s g1 (by omega)) l[i] (hs _ hm).1 (by have:=(hs _ hm).2;omega) (hk _ hm)
 rw[z,←e]at hdo
 generalize hu2:YY w l (i+1)=u' at e hdo
 generalize hu:YY w l i=u at hdo
 generalize l[i]=o at g hdo
 rw[kx]at g hdo
 push_cast -dsimp [hll,h,g,hu]
 repeat refine an ?_
 refine cl (hdo) ?_;push_cast -dsimp [hll,h,g,hu]
 repeat refine an ?_
 exact ⟨i+1,h,by omega,wk (h5:=by push_cast -dsimp [ze,zd,CLe,zg,hu2])⟩
theorem zbi {s:List Int} {n m:Int} (h:∀ x∈s,n<x/\x<=m):s = []∨∃ a r,s=a :: r/\n<a:=by
 cases s with
 | nil=>exact .inl rfl
 | cons a r=>exact .inr ⟨a,r,rfl,(h a List.mem_cons_self).1⟩
theorem NO {w:qg} {l:List OpV} (h:∀ o∈l,OpS o):∀ i,∀ o∈(mkD w l i).ops,OpS o
 | 0=>fun o ho=>(by cases ho)
 | i+1=>by
  have ih:=NO (w:=w) h i
  show ∀ o∈(match l[i]? with | some o=>XL (mkD w l i) i o | none=>mkD w l i).ops,OpS o
  cases hg:l[i]? with
  | none=>exact ih
  | some o =>
   have ho:=h o (List.mem_of_getElem? hg)
   show ∀ x∈(XL (mkD w l i) i o).ops,OpS x
   unfold XL
   split
   ·exact ih
   ·split
    ·rename_i hz
     rw[uY hz]
     intro x hx
     rcases List.mem_append.1 hx with hx | hx
     ·exact ih x hx
     ·rw[List.mem_singleton.1 hx];exact ⟨ho.a,ho.b,ho.d⟩
    ·exact ih
theorem kN (w:qg) (l:List OpV):Fun Tryz.prog GD 5 [jB w,.sl 5 (Hk l)] (qO true) 0:=by
 have h1:=(zaF w l).gd0
 cases hf:QP w l with
 | false =>
  rw[hf]at h1
  refine fon Tryz.func5 ?_;dsimp only[Tryz.f5]
  push_cast -dsimp
  refine cl (Xo) ?_;push_cast -dsimp
  refine cl (h1) ?_;push_cast -dsimp
  refine cl (Xo) ?_;push_cast -dsimp
  exact dn
 | true =>
  rw[hf]at h1
  have hnx:w.fs.next<549755813888:=by
   unfold QP at hf
   simp only[Bool.and_eq_true,decide_eq_true_eq]at hf
   exact hf.2.1
  obtain ⟨p1,p2,p3,p4⟩:=zbb hf
  have h2:=zco w l p1 p2 p3 p4
  have hB:=zcK p1 p2 (fun o h=>(p4 o h).d) l.length
  obtain ⟨hL,hn⟩:=u0 p1 p2 (fun o h=>(p4 o h).d) l.length
  have hsh:=NO (w:=w) p4 l.length
  have hd:=hB.s (by omega)
  have hol:=hB.ops
  generalize mkD w l l.length=d at h2 hB hL hn hsh hd hol
  have hlo:(d.ops.map opL).length=d.ops.length:=List.length_map ..
  have hdl:(jq d.diags).length=d.diags.length:=List.length_map ..
  have h3:=(zep d.ops (by omega) fun o ho=>(hsh o ho).short).gd0
  rw[hL.plan]at h3
  have hM:zqb d.w:=⟨hd.ws.fs,by have:=hB.wb.klen;omega,⟨by have:=hB.wb.plen;show d.w.pool.length<=10000;omega,fun x hx=>by obtain ⟨q1,q2,q3⟩:=hB.wb.pnode x hx;exact ⟨by omega,by omega,fun e he=>by have:=q3 e he;omega⟩⟩⟩
  have h4:=(Uo d.w hM).gd0
  rw[decide_eq_true (hL.right.right hB.wi (by omega))]at h4
  have h5:=(zaL d.ops (by omega)).gd0
  have h6:=(kA (G:=G0) w (by have:=(zf1 p1).klen;omega) p1.2.2.2.2.1.1 p1.2.2.2.2.1.2).gd0
  have h7:=(zd3 w d.ops d.w hL.run (zpi p1) (zf1 p1) (fun o ho=>(hL.may o ho).2) (fun o ho=>⟨(hsh o ho).short,(hsh o ho).d⟩) (by omega)).gd0
  have h8:=(zen d.w d.w (by have:=hd.ws.fs.len;omega) (by have:=hd.ws.pool;omega) (by have:=hd.ws.kept;omega) (fun z hz=>by have:=(hd.ws.fs.node z hz).1;omega) (fun z hz=>by have:=(hB.wb.pnode z hz).1;omega)).gd0
  rw[decide_eq_true rfl]at h8
  have hst:(decide (d.status=1)==decide (0<d.diags.length))=true:=by
   rw[beq_iff_eq,Bool.eq_iff_iff,decide_eq_true_eq,decide_eq_true_eq,hL.stat,List.length_pos_iff]
  rcases zbi hL.over with hs | ⟨a,r,hs,hlt⟩
  ·rw[hs]at h5
   refine fon Tryz.func5 ?_;dsimp only[Tryz.f5]
   push_cast -dsimp
   refine cl (Xo) ?_;push_cast -dsimp
   refine cl (h1) ?_;push_cast -dsimp
   refine cl (h2) ?_;push_cast -dsimp
   refine cl (h3) ?_;push_cast -dsimp
   refine cl (h4) ?_;push_cast -dsimp
   refine cl (h5) ?_;push_cast -dsimp
   refine cl (h7) ?_;push_cast -dsimp
   refine cl (h8) ?_;push_cast -dsimp
   exact dn (by push_cast -dsimp [ze,zd,CLe,zg,hst])
  ·rw[hs]at h5
   have hr0:(0<(r.length:Int)+1)=True:=eq_true (by omega)
   have ha0:(a<=jy w.kept)=False:=eq_false (by omega)
   refine fon Tryz.func5 ?_;dsimp only[Tryz.f5]
   push_cast -dsimp
   refine cl (Xo) ?_;push_cast -dsimp
   refine cl (h1) ?_;push_cast -dsimp
   refine cl (h2) ?_;push_cast -dsimp
   refine cl (h3) ?_;push_cast -dsimp
   refine cl (h4) ?_;push_cast -dsimp
   refine cl (h5) ?_;push_cast -dsimp [hr0,show zqB a = [.sc (.int .i64 a)] from rfl]
   repeat refine an ?_
   refine cl (h6) ?_;push_cast -dsimp [ha0]
   refine cl (h7) ?_;push_cast -dsimp
   refine cl (h8) ?_;push_cast -dsimp
   exact dn (by push_cast -dsimp [ze,zd,CLe,zg,hst])
end
end Go.Proofs.YtiblepfehggicaaGreatDoor.Vcg
section
namespace Go.Proofs.YtiblepfehggicaaGreatDoor.PDraftLeads
open Go.ChangeShapes Go.WideShapes Go.ChangeAt Go.RowKit Vcg
theorem own:ownKnob Tryz.prog.godebug=none:=by kernel_rfl
theorem laidOut:laidOutB Tryz.prog=true:=by kernel_rfl
theorem contract (H:Type) (enc:TypeId×Value->H) (W:World) (base:Nat) (args:Array Value) (ds gs:List (DataW H)) (before:List MemPlace)
  (hval:∀ (j:Nat) t v,Tryz.f5.params[j]?=some t->args[j]?=some v->Value.okWide Tryz.prog W .any base t v)
  (hW:DataW.Whole enc Tryz.prog Tryz.f5.params.toList Rows.draftLeadsSpec.vars false W args.toList ds gs before) (hL:laidMetH Tryz.prog Rows.draftLeadsRow.laid W) :
  Calls Tryz.prog 5 args W fun e W'=>∃ v,e = .returned v/\Rows.draftLeadsSpec.post enc Tryz.prog Tryz.f5 false true false false W args v W':=by
 have hW':=hW
 obtain ⟨p,q,hA0,hV,rfl,hfz,hnd⟩:=hW
 have hA:DataW.TrodAll enc Tryz.prog W 0 (fun _=>true) true Tryz.f5.params.toList args.toList ds p:=hA0
 rw[Tryz.params5]at hA hval
 obtain ⟨v0,vs0,d0,ds0,p0,q0,hargs,rfl,rfl,h0,r0⟩:=trodAll_cons hA
 obtain ⟨v1,vs1,d1,ds1,p1,q1,rfl,rfl,rfl,h1,r1⟩:=trodAll_cons r0
 obtain ⟨rfl,rfl,rfl⟩:=trodAll_nil r1
 obtain rfl:args = #[v0,v1]:=by cases args;simp_all
 obtain ⟨rfl,rfl⟩:=trodVars_none hV
 have lt0:∀ x∈p0,x.block<W.heap.size:=by obtain ⟨m,hm⟩:=h0;exact DataW.trod_lt m _ _ _ hm
 have lt1:∀ x∈p1,x.block<W.heap.size:=by obtain ⟨m,hm⟩:=h1;exact DataW.trod_lt m _ _ _ hm
 obtain ⟨row0,⟨a0,rfl,w0⟩,rep0⟩:=jl.arg zgr Tryz.underlying29 (hval 0 29 v0 rfl rfl) h0
 obtain ⟨n1,m1,c1,hn1⟩:=okWide_slice Tryz.underlying30 (hval 1 30 v1 rfl rfl)
 obtain ⟨_,⟨a1,rfl,w1⟩,rep1⟩:=Opn.arg (r:=.any) (b0:=base) zlJ (by rw[hn1];rfl) h1
 clear hA0
 refine (Fun.answers (kN a0 a1) (zrd hL (by kernel_rfl) (by repeat (first | exact List.mem_cons_self | refine List.mem_cons_of_mem _ ?_)) (by repeat (first | exact List.mem_cons_self | refine List.mem_cons_of_mem _ ?_)) (by repeat (first | exact List.mem_cons_self | refine List.mem_cons_of_mem _ ?_)) (by repeat (first | exact List.mem_cons_self | refine List.mem_cons_of_mem _ ?_))) (zf.2 ⟨_,_,rfl,rep0,zf.2 ⟨_,_,rfl,rep1,zl.2 rfl⟩⟩)).mono fun e W' ⟨he,bel⟩=>?_
 subst he
 exact ⟨_,rfl,_,_,_,[],_,[],hW',trodAll_mk1 (shut_bool Tryz.underlying4 _),(trodAll_cons_mk (Below.trod laidOut (by kernel_rfl) (of_decide_eq_true (by kernel_rfl)) h0 bel lt0) (trodAll_cons_mk (Below.trod laidOut (by kernel_rfl) (of_decide_eq_true (by kernel_rfl)) h1 bel lt1) trodAll_mk0)),rfl,bel.frame _,fun h=>by cases h⟩
theorem lifted (os:Os) (started:os.Started) (H:Type) (enc:TypeId×Value->H) :
  ReturnsInHanded {} Tryz.checked os 5 .any (fun w args=>(Rows.draftLeadsSpec.pre enc Tryz.prog Tryz.f5 Rows.draftLeadsRow.domain false w args/\laidMetH Tryz.prog Rows.draftLeadsRow.laid w)/\sizedMet enc Tryz.prog Tryz.f5 (OpenSpec.ofChange Rows.draftLeadsSpec) false w args)
   (Rows.draftLeadsSpec.post enc Tryz.prog Tryz.f5 false true false false):=by
 refine returnsInHanded_of_change_and (C:=Tryz.checked) (X:=fun w _=>laidMetH Tryz.prog Rows.draftLeadsRow.laid w) (fun _ _ _ hh h=>h.of_heap hh) own started (by kernel_rfl) Tryz.func5
  (ChangeSpec.witness_shaped (enc:=enc) (C:=Tryz.checked) (os:=os) (X:=fun w _=>laidMetH Tryz.prog Rows.draftLeadsRow.laid w) false (World.laidAll Tryz.prog os Rows.draftLeadsRow.laid) #[.agg #[.int .i64 0,.int .i64 0,.int .i64 0,.slice none 0 0,.slice none 0 0,.slice none 0 0],.slice none 0 0] 8 (World.laidAll_os _ _ _)
   (World.shaped_of_ZipB (by kernel_rfl) (by kernel_rfl)) (by kernel_rfl) (by kernel_rfl) (by kernel_rfl)
   (by rw[MakeChecks.laidMetH_plain _ _ _ (by kernel_rfl)];exact laidMet_laidAll _ (by kernel_rfl) (by kernel_rfl))) ?_
 intro W base args ds gs before hval hW _ _ hL _
 exact contract H enc W base args ds gs before hval hW hL
theorem said:Rows.DraftLeadsSaid:=
 OpenClaim.holds_of_wide 5 Tryz.f5 rfl rfl rfl rfl rfl rfl rfl ⟨rfl,rfl,rfl,rfl,rfl⟩ rfl rfl rfl rfl rfl (by kernel_rfl) Tryz.func5 (by kernel_rfl)
  (of_decide_eq_true (by kernel_rfl)) (by unfold Func.isWrapper;first | (rw[if_pos (by decide +kernel)];kernel_rfl) | (rw[if_neg (by decide +kernel)];exact ⟨rfl,rfl⟩))
  (fun os started H enc _=>lifted os started H enc)
theorem Yk (f:FuncId) (fn:Func) (hf:Tryz.pinned.checked.prog.funcNamed "drayman/draymanlaw25.DraftLeads"=some f) (hfn:Tryz.pinned.checked.prog.funcs[f]?=some fn) :
  false=Tryz.pinned.checked.prog.looks []/\∀ (j:Nat) t,fn.params[j]?=some t->Tryz.pinned.checked.prog.wantsStandIn t=false:=by
 obtain rfl:f=5:=Option.some.inj ((show Tryz.prog.funcNamed "drayman/draymanlaw25.DraftLeads"=some 5 by kernel_rfl).symm.trans hf) |>.symm
 obtain rfl:fn=Tryz.f5:=(Option.some.inj (Tryz.func5.symm.trans hfn)).symm
 exact ⟨by kernel_rfl,fun j t ht=>by
  rw[Tryz.params5]at ht
  have hm:t∈[29,30]:=by simpa using Array.mem_of_getElem? ht
  have hall:([29,30].all fun u=>!Tryz.prog.wantsStandIn u)=true:=by kernel_rfl
  exact (show Tryz.prog.wantsStandIn t=false by simpa using List.all_eq_true.1 hall t hm)⟩
theorem card:Rows.DraftLeadsCardSaid:=
 Claim7.holds_tied_plain_at .later [] _ _ _ _ said (fun _ h=>by cases h) (by kernel_rfl) (fun _ h=>by cases h) draftLeads_row_tie rfl ⟨rfl,rfl⟩ (by kernel_rfl) rfl Yk (by kernel_rfl)
theorem proved:Rows.DraftLeadsCardSaid:=card
end Go.Proofs.YtiblepfehggicaaGreatDoor.PDraftLeads
end
