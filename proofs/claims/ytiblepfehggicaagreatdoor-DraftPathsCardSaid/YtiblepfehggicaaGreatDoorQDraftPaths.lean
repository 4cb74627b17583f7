/- The statement of DraftPaths is proved: for every input the law answers true, and each argument reads behind the call as it read before. Condition: none but what the row itself prints. -/
import Derived.Test.YtiblepfehggicaaGreatDoorDraftPathsKd
import Derived.WalkKit
import Derived.Lib.Hide
import Derived.Lib.Join
import Derived.Deep.Draws
import Derived.Lib.SlBytesRow
import Derived.StillTailTactics
import Derived.Test.YtiblepfehggicaaGreatDoorProg
import Derived.WalkLawsBesides
import Derived.WalkSpells
import Derived.Shelf.Strings.Builder1
import Derived.Shelf.Strings.BuilderF
import Derived.Shelf.Strings.SlTrimAscii
import Derived.Sort.Walk0
import Derived.Test.YtiblepfehggicaaGreatDoorCards
import Derived.Test.YtiblepfehggicaaGreatDoorTie
import Derived.ProofKit
import Derived.OpenShut
import Derived.ShutString
import Derived.ChangeOld
import Derived.Below
import Derived.LaidMore
import Derived.Lay
import Derived.SevenTiedAt
import Derived.Stop.Joined
set_option linter.unusedVariables false
set_option linter.unusedSimpArgs false
set_option linter.unusedSectionVars false
set_option maxRecDepth 100000
set_option maxHeartbeats 4000000
namespace Go.Proofs.YtiblepfehggicaaGreatDoor.Vcg
section
open CA CB
open Go.RowKit
theorem vT {α κ:Type} [DecidableEq κ] {key:α->κ} {n:κ} {xs:List α} {i:Nat} (h:i<xs.length) (h0:JR key n (xs.take i)=false) :
  (key xs[i]=n->Ja key n xs=some xs[i])/\(key xs[i]≠n->JR key n (xs.take (i+1))=false):=by
 have e:xs=xs.take i++xs[i] :: xs.drop (i+1):=by rw[←List.drop_eq_getElem_cons h,List.take_append_drop]
 refine ⟨fun hk=>?_,fun hk=>?_⟩
 ·have q:Ja key n xs=Ja key n (xs.take i++xs[i] :: xs.drop (i+1)):=congrArg _ e
  rw[q]
  unfold Ja
  unfold JR at h0
  rw[List.any_eq_false]at h0
  rw[List.find?_append,List.find?_eq_none.2 fun x hx=>h0 x hx,Option.none_or,List.find?_cons,decide_eq_true hk]
 ·unfold JR at h0 ⊢
  rw[List.take_add_one,List.getElem?_eq_getElem h,List.any_append,h0]
  simp[hk]
theorem zfp {α κ:Type} [DecidableEq κ] {key:α->κ} {n:κ} {xs:List α} (h0:JR key n xs=false):Ja key n xs=none:=by
 rw[jM]at h0
 cases h:Ja key n xs with
 | none=>rfl
 | some x=>rw[h]at h0;cases h0
section
variable {G:zk}
theorem NP (es:List zX) (n:List UInt8) (hl:es.length<=100000):Fun Tryz.prog G 76 [.sl 2 (zL es),.str n] (.tup [.sc (.int .i64 (qr n es)),.sc (.bool (Q4 n es))]) 0:=by
 have hll:(zL es).length=es.length:=List.length_map ..
 refine Fun.of (fun _=>[]) Tryz.func76 rfl (zp rfl) (by kernel_rfl) ?_;dsimp only[Tryz.f76]
 push_cast -dsimp
 refine loop (fun i:Nat=>⟨[(0,.sl 2 (zL es)),(1,.str n),(6,.sc (.int .i64 i))],[],0,0⟩) (fun i=>i<=es.length/\JR zX.name n (es.take i)=false) (fun i=>es.length-i) 0 ⟨Nat.zero_le _,rfl⟩ ?_ ?_
 ·exact zS.mk [] rfl rfl (Nat.zero_le _) rfl (by push_cast -dsimp [zb,za,CLe,ze]) (by push_cast -dsimp [zb,za,CLe,ze])
 ·rintro i ⟨h1,h2⟩
  by_cases h:i<es.length
  ·have g1:=JD es i h
   obtain ⟨q1,q2⟩:=vT h h2
   by_cases he:es[i].name=n
   ·have q:=q1 he
    have e1:Q4 n es=true:=by unfold Q4;rw[jM,q];rfl
    have e2:qr n es=es[i].ino:=by unfold qr;rw[q]
    push_cast -dsimp [hll,h,g1,he]
    (try simp only[lS]);repeat refine And.intro (by omega) ?_
    exact ⟨[],rfl,rfl,by push_cast -dsimp [zb,za,CLe,ze,e1,e2]⟩
   ·push_cast -dsimp [hll,h,g1,he]
    (try simp only[lS]);repeat refine And.intro (by omega) ?_
    exact ⟨i+1,⟨h,q2 he⟩,by omega,zS.mk [] rfl rfl (Nat.zero_le _) rfl (by push_cast -dsimp [zb,za,CLe,ze]) (by push_cast -dsimp [zb,za,CLe,ze])⟩
  ·rw[List.take_of_length_le (by omega)]at h2
   have e1:Q4 n es=false:=h2
   have e2:qr n es=0:=by unfold qr;rw[zfp h2]
   push_cast -dsimp [hll,h]
   exact ⟨[],rfl,rfl,by push_cast -dsimp [zb,za,CLe,ze,e1,e2]⟩
end
theorem zkM (f:FsV) (hf:FsI f) (hs:FsS f) (p:List UInt8) (hp:p.length<=100000):Fun Tryz.prog G0 115 [.agg (fsC f),.str p] (.tup [.agg (j0 (atV f p).1),.sc (.int .i64 (atV f p).2)]) 0:=by
 have hpl:=GU p (by omega)
 have hlen:=hs.len
 have hnl:(zE p).length<=100000:=by have:=jl p;omega
 cases hpp:XA p with
 | false =>
  have e:atV f p=(qL,9):=by unfold atV;rw[hpp];rfl
  unfold YH at hpl
  rw[hpp]at hpl
  refine Fun.of (fun i=>if i=14 then [false,false,false,false,false,false,false,false,true] else []) Tryz.func115 rfl (zp rfl) (by kernel_rfl) ?_;dsimp only[Tryz.f115]
  push_cast -dsimp
  refine cl (hpl) ?_;push_cast -dsimp
  exact ⟨[],rfl,rfl,by push_cast -dsimp [zb,za,CLe,ze,e,qL]⟩
 | true =>
  have e:atV f p=atW f.xs (zE p) ⟨0,[],1⟩:=by unfold atV;rw[hpp];rfl
  unfold YH at hpl
  rw[hpp,if_pos rfl]at hpl
  generalize zE p=ns at hpl hnl e
  have hsl:(qA ns).length=ns.length:=List.length_map ..
  refine Fun.of (fun i=>if i=14 then [false,false,false,false,false,false,false,false,true] else []) Tryz.func115 rfl (zp rfl) (by kernel_rfl) ?_;dsimp only[Tryz.f115]
  push_cast -dsimp
  refine cl (hpl) ?_;push_cast -dsimp
  refine loop (fun x:Nat×qk=>⟨[(1,.str p),(2,.ptr 0 0),(4,.ptr 1 0),(6,.own 0 9 1 (qA ns)),(8,.ptr 2 0),(9,.sc (.int .i64 x.1))],[fsC f,[.sc (.int .i64 0),.str [],.sc (.int .i64 0)],j0 x.2],1,0⟩)
   (fun x=>x.1<=ns.length/\atW f.xs ns ⟨0,[],1⟩=atW f.xs (ns.drop x.1) x.2/\(x.2.ino≠0->zF x.2.ino f.xs=true)) (fun x=>ns.length-x.1) (0,⟨0,[],1⟩) ⟨Nat.zero_le _,rfl,fun _=>hf.root⟩ ?_ ?_
  ·exact zS.mk [.inl 0] rfl rfl (Nat.zero_le _) rfl (by push_cast -dsimp [zb,za,CLe,ze,hsl]) (by push_cast -dsimp [zb,za,CLe,ze])
  rintro ⟨k,s⟩ ⟨hk,hat,hin⟩
  simp only at hk hat hin ⊢
  by_cases hlt:k<ns.length
  ·have gs:=NK hlt
   have hdr:ns.drop k=ns[k] :: ns.drop (k+1):=List.drop_eq_getElem_cons hlt
   obtain ⟨nm,hnm⟩:∃ nm,ns[k]=nm:=⟨_,rfl⟩
   rw[hnm]at gs hdr
   by_cases h0:s.ino=0
   ·have hr:atV f p=(qL,1):=by rw[e,hat,hdr];unfold atW;rw[if_pos h0]
    push_cast -dsimp [hsl,hlt,h0]
    exact ⟨[],rfl,rfl,by push_cast -dsimp [zb,za,CLe,ze,hr,qL]⟩
   ·have hh:=hin h0
    have hg:=Jl (G:=G0) f s.ino (by omega)
    have hgg:=zi hh
    rw[hh]at hg
    by_cases hk2:(zg s.ino f.xs).kind=2
    ·have hfd:=NP (G:=G0) (zg s.ino f.xs).es nm (by have:=hs.es hh;omega)
     have hnx:atW f.xs ns ⟨0,[],1⟩=atW f.xs (ns.drop (k+1)) ⟨(zg s.ino f.xs).ino,nm,qr nm (zg s.ino f.xs).es⟩:=by
      rw[hat,hdr]
      conv=>lhs;unfold atW
      rw[if_neg h0,if_neg (by simp[hk2])]
     have hin2:qr nm (zg s.ino f.xs).es≠0->zF (qr nm (zg s.ino f.xs).es) f.xs=true:=fun hne=>by
      refine yf hf hh ?_
      unfold Q4
      rw[jM]
      cases hq:Ja zX.name nm (zg s.ino f.xs).es with
      | some e=>rfl
      | none=>unfold qr at hne;rw[hq]at hne;exact absurd rfl hne
     push_cast -dsimp [hsl,hlt,h0]
     refine cl (hg) ?_;push_cast -dsimp [hk2,gs]
     (try simp only[lS]);repeat refine And.intro (by omega) ?_
     refine cl (hfd) ?_;push_cast -dsimp [gs]
     (try simp only[lS]);repeat refine And.intro (by omega) ?_
     exact ⟨(k+1,⟨(zg s.ino f.xs).ino,nm,qr nm (zg s.ino f.xs).es⟩),⟨hlt,hnx,hin2⟩,by simp only;omega,zS.mk [.inl 0] rfl rfl (Nat.zero_le _) rfl (by push_cast -dsimp [zb,za,CLe,ze]) (by push_cast -dsimp [zb,za,CLe,ze])⟩
    ·have hr:atV f p=(qL,3):=by rw[e,hat,hdr];unfold atW;rw[if_neg h0,if_pos hk2]
     push_cast -dsimp [hsl,hlt,h0]
     refine cl (hg) ?_;push_cast -dsimp [hk2]
     exact ⟨[],rfl,rfl,by push_cast -dsimp [zb,za,CLe,ze,hr,qL]⟩
  ·have hd0:ns.drop k = []:=List.drop_of_length_le (by omega)
   have hr:atV f p=(s,0):=by rw[e,hat,hd0];rfl
   push_cast -dsimp [hsl,hlt]
   exact ⟨[],rfl,rfl,by push_cast -dsimp [zb,za,CLe,ze,hr]⟩
end
section
open CA CB
open Go.RowKit
theorem zhQ {f:C} {x:zw} (hx:x.es = []) (R:Env) (vs:List Value) (h:zx R zH [f,.agg [.sc (.int .i64 x.ino),.sc (.int .i64 x.kind),.sc (.int .i64 x.links),.str x.data,.sc (.int .i64 x.parent),.sc (.slice none 0 0)]] vs):zx R zH [f,.agg (Xg x)] vs:=by
 obtain ⟨v1,us1,rfl,h1,h⟩:=zd.1 h
 obtain ⟨v2,us2,rfl,h2,h⟩:=zd.1 h
 refine zd.2 ⟨_,_,rfl,h1,zd.2 ⟨_,_,rfl,?_,h⟩⟩
 obtain ⟨ws,rfl,hw⟩:=jJ.1 h2
 obtain ⟨w1,t1,e1,g1,hw⟩:=zd.1 hw
 obtain ⟨w2,t2,e2,g2,hw⟩:=zd.1 hw
 obtain ⟨w3,t3,e3,g3,hw⟩:=zd.1 hw
 obtain ⟨w4,t4,e4,g4,hw⟩:=zd.1 hw
 obtain ⟨w5,t5,e5,g5,hw⟩:=zd.1 hw
 obtain ⟨w6,t6,e6,g6,hw⟩:=zd.1 hw
 refine jJ.2 ⟨ws,rfl,?_⟩
 have g6':Rep R zH (.sl 2 (zL x.es)) w6:=by rw[hx];exact yZ g6
 rw[e1,e2,e3,e4,e5,e6]
 exact zd.2 ⟨_,_,rfl,g1,zd.2 ⟨_,_,rfl,g2,zd.2 ⟨_,_,rfl,g3,zd.2 ⟨_,_,rfl,g4,zd.2 ⟨_,_,rfl,g5,zd.2 ⟨_,_,rfl,g6',hw⟩⟩⟩⟩⟩⟩
theorem yo {G:zk} (f:FsV) (x:zw) (hx:x.es = []) (hl:f.xs.length<=90000) :
  Fun Tryz.prog G 63 [.agg (fsC f),.agg [.sc (.int .i64 x.ino),.sc (.int .i64 x.kind),.sc (.int .i64 x.links),.str x.data,.sc (.int .i64 x.parent),.sc (.slice none 0 0)]] (.agg [.sc (.int .i64 f.maxI),.sc (.int .i64 f.maxB),.sc (.int .i64 f.next),.own 0 75 6 (zt (qP x f.xs))]) 1:=
 (yt f x hl).argsLe (zhQ hx)
end
section
open CA CB
open Go.RowKit
section
variable {G:zk}
end
end
section
open CA CB
open Go.RowKit
end
section
open CA CB
open Go.RowKit
def zpr (n:Int):List C:=[.sc (.int .i64 n)]
abbrev zoT (l:List Int):List (List C):=l.map zpr
theorem M5 (l:List Int):(zoT l).length=l.length:=List.length_map _
theorem zbe (l:List Int) (n:Int):zoT l++[[.sc (.int .i64 n)]]=zoT (l++[n]):=by simp[zpr]
attribute [push_cast] M5 zbe
abbrev zmx (l:List OpV):List (List C):=l.map opL
theorem xx (l:List OpV):(zmx l).length=l.length:=List.length_map _
theorem zbl (l:List OpV) (k:Nat):(zmx l).take k=zmx (l.take k):=List.map_take.symm
theorem zcV (l:List OpV) (k:Nat):(zmx l).drop k=zmx (l.drop k):=List.map_drop.symm
attribute [push_cast] xx zbl zcV
end
section
open Go.RowKit
end
section
open Go.RowKit
end
section
open CA CB
open Go.RowKit
end
section
open CA CB
open Go.RowKit
end
section
open CA CB
open Go.RowKit
def Jw (f:FsV):Prop:=1<=f.maxI/\f.maxI<=1073741824/\0<=f.maxB/\f.maxB<=1073741824/\f.next<=1099511627776/\(∀ x∈f.xs,1<=x.ino/\x.ino<f.next)/\zZ f.xs/\zF 1 f.xs=true/\(zg 1 f.xs).kind=2
instance (f:FsV):Decidable (Jw f):=by unfold Jw;infer_instance
def Yx (f:FsV):Prop:=∀ x∈f.xs,∀ e∈x.es,zF e.ino f.xs=true
instance (f:FsV):Decidable (Yx f):=by unfold Yx;infer_instance
def kP (f:FsV):Prop:=(f.xs.length:Int)<=f.maxI/\(jk f.xs:Int)<=f.maxB
instance (f:FsV):Decidable (kP f):=by unfold kP;infer_instance
theorem qK {α:Type} {l:List α} {i:Nat} (h:i<l.length) {P:α->Prop} (h1:∀ x∈l.take i,P x) (h2:P l[i]):∀ x∈l.take (i+1),P x:=fun x hx=>by
 rw[List.take_add_one,List.getElem?_eq_getElem h]at hx
 rcases List.mem_append.1 hx with hx | hx
 ·exact h1 x hx
 ·simp at hx;subst hx;exact h2
section
variable {G:zk}
theorem N8 (f:FsV) (hl:f.xs.length<=100000):Fun Tryz.prog G 67 [.agg (fsC f)] (.sc (.bool (decide (Jw f)))) 0:=by
 have hll:(zt f.xs).length=f.xs.length:=List.length_map ..
 refine Fun.of (fun _=>[]) Tryz.func67 rfl (zp rfl) (by kernel_rfl) ?_;dsimp only[Tryz.f67]
 by_cases e0:f.maxI<1
 case pos =>
  have hn:¬Jw f:=fun h=>by have:=h.1;omega
  push_cast -dsimp [e0]
  exact ⟨[],rfl,rfl,by push_cast -dsimp [zb,za,CLe,ze,hn]⟩
 by_cases e1:1073741824<f.maxI
 case pos =>
  have hn:¬Jw f:=fun h=>by have:=h.2.1;omega
  push_cast -dsimp [e0,e1]
  exact ⟨[],rfl,rfl,by push_cast -dsimp [zb,za,CLe,ze,hn]⟩
 by_cases e2:f.maxB<0
 case pos =>
  have hn:¬Jw f:=fun h=>by have:=h.2.2.1;omega
  push_cast -dsimp [e0,e1,e2]
  exact ⟨[],rfl,rfl,by push_cast -dsimp [zb,za,CLe,ze,hn]⟩
 by_cases e3:1073741824<f.maxB
 case pos =>
  have hn:¬Jw f:=fun h=>by have:=h.2.2.2.1;omega
  push_cast -dsimp [e0,e1,e2,e3]
  exact ⟨[],rfl,rfl,by push_cast -dsimp [zb,za,CLe,ze,hn]⟩
 by_cases e4:1099511627776<f.next
 case pos =>
  have hn:¬Jw f:=fun h=>by have:=h.2.2.2.2.1;omega
  push_cast -dsimp [e0,e1,e2,e3,e4]
  exact ⟨[],rfl,rfl,by push_cast -dsimp [zb,za,CLe,ze,hn]⟩
 push_cast -dsimp [e0,e1,e2,e3,e4]
 refine loop (fun i:Nat=>⟨[(1,.ptr 0 0),(3,.sc (.int .i64 i))],[fsC f],0,0⟩) (fun i=>i<=f.xs.length/\∀ x∈f.xs.take i,1<=x.ino/\x.ino<f.next) (fun i=>f.xs.length-i) 0 ⟨Nat.zero_le _,fun x hx=>by simp at hx⟩ ?_ ?_
 ·exact zS.mk [] rfl rfl (Nat.zero_le _) rfl (by push_cast -dsimp [zb,za,CLe,ze]) (by push_cast -dsimp [zb,za,CLe,ze])
 ·rintro i ⟨h1,h2⟩
  by_cases h:i<f.xs.length
  ·have g1:=jh f.xs i h
   by_cases c1:f.xs[i].ino<1
   ·have hn:¬Jw f:=fun h'=>by have:=h'.2.2.2.2.2.1 _ (List.getElem_mem h);omega
    push_cast -dsimp [hll,h,g1,c1]
    (try simp only[lS]);repeat refine And.intro (by omega) ?_
    exact ⟨[],rfl,rfl,by push_cast -dsimp [zb,za,CLe,ze,hn]⟩
   ·by_cases c2:f.next<=f.xs[i].ino
    ·have hn:¬Jw f:=fun h'=>by have:=h'.2.2.2.2.2.1 _ (List.getElem_mem h);omega
     push_cast -dsimp [hll,h,g1,c1,c2]
     (try simp only[lS]);repeat refine And.intro (by omega) ?_
     exact ⟨[],rfl,rfl,by push_cast -dsimp [zb,za,CLe,ze,hn]⟩
    ·push_cast -dsimp [hll,h,g1,c1,c2]
     (try simp only[lS]);repeat refine And.intro (by omega) ?_
     exact ⟨i+1,⟨h,qK h h2 (by omega)⟩,by omega,zS.mk [] rfl rfl (Nat.zero_le _) rfl (by push_cast -dsimp [zb,za,CLe,ze]) (by push_cast -dsimp [zb,za,CLe,ze])⟩
  ·rw[List.take_of_length_le (by omega)]at h2
   have hf:Jw f↔zZ f.xs/\zF 1 f.xs=true/\(zg 1 f.xs).kind=2:=⟨fun h=>h.2.2.2.2.2.2,fun h=>⟨by omega,by omega,by omega,by omega,by omega,h2,h⟩⟩
   push_cast -dsimp [hll,h]
   refine cl (Jl f 1 hl) ?_;push_cast -dsimp
   by_cases c1:zZ f.xs
   ·cases c2:zF 1 f.xs with
    | true =>
     refine cl (k7 f hl) ?_;push_cast -dsimp [decide_eq_true c1,c2]
     exact ⟨[],rfl,rfl,by push_cast -dsimp [zb,za,CLe,ze,hf,c1,c2]⟩
    | false =>
     have hn:¬Jw f:=fun h=>by have:=(hf.1 h).2.1;rw[c2]at this;cases this
     refine cl (k7 f hl) ?_;push_cast -dsimp [decide_eq_true c1,c2]
     exact ⟨[],rfl,rfl,by push_cast -dsimp [zb,za,CLe,ze,hn]⟩
   ·have hn:¬Jw f:=fun h=>c1 (hf.1 h).1
    refine cl (k7 f hl) ?_;push_cast -dsimp [decide_eq_false c1]
    exact ⟨[],rfl,rfl,by push_cast -dsimp [zb,za,CLe,ze,hn]⟩
theorem GG (f:FsV) (hf:FsS f):Fun Tryz.prog G 69 [.agg (fsC f)] (.sc (.bool (decide (Yx f)))) 0:=by
 have hll:(zt f.xs).length=f.xs.length:=List.length_map ..
 have h40:=hf.len
 refine Fun.of (fun i=>if i=7 then zbx 15 16 else []) Tryz.func69 rfl (zp rfl) (by kernel_rfl) ?_;dsimp only[Tryz.f69]
 push_cast -dsimp
 refine loop (fun i:Nat=>⟨[(1,.ptr 0 0),(3,.sc (.int .i64 i))],[fsC f],0,0⟩) (fun i=>i<=f.xs.length/\∀ x∈f.xs.take i,∀ e∈x.es,zF e.ino f.xs=true) (fun i=>f.xs.length-i) 0 ⟨Nat.zero_le _,fun x hx=>by simp at hx⟩ ?_ ?_
 ·exact zS.mk [] rfl rfl (Nat.zero_le _) rfl (by push_cast -dsimp [zb,za,CLe,ze]) (by push_cast -dsimp [zb,za,CLe,ze])
 ·rintro i ⟨h1,h2⟩
  by_cases h:i<f.xs.length
  ·have g1:=jh f.xs i h
   have he:=(hf.node _ (List.getElem_mem h)).1
   have hle:(zL f.xs[i].es).length=f.xs[i].es.length:=List.length_map ..
   push_cast -dsimp [hll,h]
   refine loop (fun k:Nat=>⟨[(1,.ptr 0 0),(3,.sc (.int .i64 i)),(4,.sc (.int .i64 k))],[fsC f],0,0⟩) (fun k=>k<=f.xs[i].es.length/\∀ e∈f.xs[i].es.take k,zF e.ino f.xs=true) (fun k=>f.xs[i].es.length-k) 0 ⟨Nat.zero_le _,fun x hx=>by simp at hx⟩ ?_ ?_
   ·exact zS.mk [] rfl rfl (Nat.zero_le _) rfl (by push_cast -dsimp [zb,za,CLe,ze]) (by push_cast -dsimp [zb,za,CLe,ze])
   ·rintro k ⟨h3,h4⟩
    by_cases hk:k<f.xs[i].es.length
    ·have g2:=JD f.xs[i].es k hk
     push_cast -dsimp [g1,hle,hk,g2]
     (try simp only[lS]);repeat refine And.intro (by omega) ?_
     refine cl (Jl f f.xs[i].es[k].ino (by omega)) ?_;push_cast -dsimp
     cases hh:zF f.xs[i].es[k].ino f.xs with
     | true =>
      push_cast -dsimp [hh]
      (try simp only[lS]);repeat refine And.intro (by omega) ?_
      exact ⟨k+1,⟨hk,qK hk h4 hh⟩,by omega,zS.mk [] rfl rfl (Nat.zero_le _) rfl (by push_cast -dsimp [zb,za,CLe,ze]) (by push_cast -dsimp [zb,za,CLe,ze])⟩
     | false =>
      have hn:¬Yx f:=fun h'=>by have:=h' _ (List.getElem_mem h) _ (List.getElem_mem hk);rw[hh]at this;cases this
      push_cast -dsimp [hh]
      exact ⟨[],rfl,rfl,by push_cast -dsimp [zb,za,CLe,ze,hn]⟩
    ·rw[List.take_of_length_le (by omega)]at h4
     push_cast -dsimp [g1,hle,hk]
     (try simp only[lS]);repeat refine And.intro (by omega) ?_
     exact ⟨i+1,⟨h,qK h h2 h4⟩,by omega,zS.mk [] rfl rfl (Nat.zero_le _) rfl (by push_cast -dsimp [zb,za,CLe,ze]) (by push_cast -dsimp [zb,za,CLe,ze])⟩
  ·rw[List.take_of_length_le (by omega)]at h2
   have hn:Yx f:=h2
   push_cast -dsimp [hll,h]
   exact ⟨[],rfl,rfl,by push_cast -dsimp [zb,za,CLe,ze,hn]⟩
theorem vG (f:FsV) (hf:FsS f) (hb:jk f.xs<=100000000):Fun Tryz.prog G 72 [.agg (fsC f),.sc (.int .i64 0),.sc (.int .i64 0)] (.sc (.bool (decide (kP f)))) 0:=by
 have hll:(zt f.xs).length=f.xs.length:=List.length_map ..
 have h40:=hf.len
 refine Fun.of (fun _=>[]) Tryz.func72 rfl (zp rfl) (by kernel_rfl) ?_;dsimp only[Tryz.f72]
 by_cases c1:f.maxI<f.xs.length
 ·have hn:¬kP f:=fun h=>by have:=h.1;omega
  push_cast -dsimp [hll,c1]
  (try simp only[lS]);repeat refine And.intro (by omega) ?_
  exact ⟨[],rfl,rfl,by push_cast -dsimp [zb,za,CLe,ze,hn]⟩
 ·have hn:kP f↔(jk f.xs:Int)<=f.maxB:=⟨fun h=>h.2,fun h=>⟨by omega,h⟩⟩
  push_cast -dsimp [hll,c1]
  (try simp only[lS]);repeat refine And.intro (by omega) ?_
  refine cl (zb0 f hf) ?_;push_cast -dsimp
  (try simp only[lS]);repeat refine And.intro (by omega) ?_
  exact ⟨[],rfl,rfl,by push_cast -dsimp [zb,za,CLe,ze,hn]⟩
end
end
section
open Go.RowKit
abbrev Z6 (x:zw) (es:List zX):List (Int×Int):=es.map fun e=>(e.ino,x.ino)
def qp (xs:List zw):List (Int×Int):=xs.flatMap fun x=>Z6 x x.es
def Z8 (n:Int) (l:List (Int×Int)):Nat:=(l.filter fun p=>p.1==n).length
def UW (n:Int) (l:List (Int×Int)):Int:=(((l.filter fun p=>p.1==n).getLast?).map (·.2)).getD 0
theorem zkW {n:Int} {l:List (Int×Int)} {p:Int×Int}:Z8 n (l++[p])=Z8 n l+if p.1=n then 1 else 0:=by
 unfold Z8
 rw[List.filter_append,List.length_append]
 by_cases h:p.1=n<;>simp[h]
theorem zgG {n:Int} {l:List (Int×Int)} {p:Int×Int}:UW n (l++[p])=if p.1=n then p.2 else UW n l:=by
 unfold UW
 rw[List.filter_append]
 by_cases h:p.1=n<;>simp[h]
theorem zab {xs:List zw} {i:Nat} (h:i<xs.length):qp (xs.take (i+1))=qp (xs.take i)++Z6 xs[i] xs[i].es:=by
 unfold qp
 rw[List.take_add_one,List.getElem?_eq_getElem h,List.flatMap_append]
 simp
theorem zas {x:zw} {es:List zX} {k:Nat} (h:k<es.length):Z6 x (es.take (k+1))=Z6 x (es.take k)++[(es[k].ino,x.ino)]:=by
 rw[List.take_add_one,List.getElem?_eq_getElem h,Option.toList_some]
 exact List.map_append
theorem zet {xs:List zw} (hf:∀ x∈xs,x.es.length<=10000):(qp xs).length<=xs.length*10000:=by
 induction xs with
 | nil=>exact Nat.le_refl _
 | cons x r ih =>
  have h1:=hf x List.mem_cons_self
  have h2:=ih fun y hy=>hf y (List.mem_cons_of_mem _ hy)
  unfold qp at h2 ⊢
  rw[List.flatMap_cons,List.length_append,List.length_map,List.length_cons]
  omega
theorem znM {n:Int} {l:List (Int×Int)}:Z8 n l<=l.length:=List.length_filter_le _ _
def Zb (xs:List zw) (x:zw):Prop:=x.links=Z8 x.ino (qp xs)/\if x.ino=1 then Z8 x.ino (qp xs)=0/\x.parent=1 else 1<=Z8 x.ino (qp xs)/\(x.kind=2->Z8 x.ino (qp xs)=1/\x.parent=UW x.ino (qp xs))
instance (xs:List zw) (x:zw):Decidable (Zb xs x):=by unfold Zb;infer_instance
def YV (f:FsV):Prop:=∀ x∈f.xs,Zb f.xs x
instance (f:FsV):Decidable (YV f):=by unfold YV;infer_instance
section
variable {G:zk}
theorem um (f:FsV) (n:Int) (hf:FsS f):Fun Tryz.prog G 113 [.agg (fsC f),.sc (.int .i64 n)] (.tup [.sc (.int .i64 (Z8 n (qp f.xs):Nat)),.sc (.int .i64 (UW n (qp f.xs)))]) 0:=by
 have hll:(zt f.xs).length=f.xs.length:=List.length_map ..
 have h40:=hf.len
 have hc0:Z8 n (qp [])=0:=rfl
 have hl0:UW n (qp [])=0:=rfl
 refine Fun.of (fun _=>[]) Tryz.func113 rfl (zp rfl) (by kernel_rfl) ?_;dsimp only[Tryz.f113]
 push_cast -dsimp
 refine loop (fun i:Nat=>⟨[(1,.sc (.int .i64 n)),(2,.ptr 0 0),(6,.sc (.int .i64 (Z8 n (qp (f.xs.take i)):Nat))),(7,.sc (.int .i64 (UW n (qp (f.xs.take i))))),(8,.sc (.int .i64 i))],[fsC f],0,0⟩) (fun i=>i<=f.xs.length) (fun i=>f.xs.length-i) 0 (Nat.zero_le _) ?_ ?_
 ·exact zS.mk [] rfl rfl (Nat.zero_le _) rfl (by push_cast -dsimp [zb,za,CLe,ze,List.take_zero,hc0,hl0]) (by push_cast -dsimp [zb,za,CLe,ze])
 ·intro i h1
  by_cases h:i<f.xs.length
  ·have g1:=jh f.xs i h
   have hle:(zL f.xs[i].es).length=f.xs[i].es.length:=List.length_map ..
   have hpl:(qp (f.xs.take i)).length<=i*10000:=by
    have:=zet (xs:=f.xs.take i) fun x hx=>(hf.node x (List.mem_of_mem_take hx)).1
    rw[List.length_take]at this
    exact Nat.le_trans this (Nat.mul_le_mul_right _ (Nat.min_le_left _ _))
   have h40e:=(hf.node _ (List.getElem_mem h)).1
   push_cast -dsimp [hll,h]
   refine loop (fun k:Nat=>⟨[(1,.sc (.int .i64 n)),(2,.ptr 0 0),(6,.sc (.int .i64 (Z8 n (qp (f.xs.take i)++Z6 f.xs[i] (f.xs[i].es.take k)):Nat))),(7,.sc (.int .i64 (UW n (qp (f.xs.take i)++Z6 f.xs[i] (f.xs[i].es.take k))))),(8,.sc (.int .i64 i)),(9,.sc (.int .i64 k))],[fsC f],0,0⟩) (fun k=>k<=f.xs[i].es.length) (fun k=>f.xs[i].es.length-k) 0 (Nat.zero_le _) ?_ ?_
   ·exact zS.mk [] rfl rfl (Nat.zero_le _) rfl (by push_cast -dsimp [zb,za,CLe,ze,List.take_zero,List.append_nil]) (by push_cast -dsimp [zb,za,CLe,ze])
   ·intro k hk0
    by_cases hk:k<f.xs[i].es.length
    ·have g2:=JD f.xs[i].es k hk
     have ht:=zas (x:=f.xs[i]) hk
     have hcl:=znM (n:=n) (l:=qp (f.xs.take i)++Z6 f.xs[i] (f.xs[i].es.take k))
     rw[List.length_append,List.length_map,List.length_take]at hcl
     have hca:=zkW (n:=n) (l:=qp (f.xs.take i)++Z6 f.xs[i] (f.xs[i].es.take k)) (p:=(f.xs[i].es[k].ino,f.xs[i].ino))
     have hla:=zgG (n:=n) (l:=qp (f.xs.take i)++Z6 f.xs[i] (f.xs[i].es.take k)) (p:=(f.xs[i].es[k].ino,f.xs[i].ino))
     rw[List.append_assoc,←ht]at hca hla
     by_cases hc:f.xs[i].es[k].ino=n
     ·rw[if_pos hc]at hca hla
      push_cast -dsimp [g1,hle,hk,g2,hc]
      (try simp only[lS]);repeat refine And.intro (by omega) ?_
      exact ⟨k+1,hk,by omega,zS.mk [] rfl rfl (Nat.zero_le _) rfl (by push_cast -dsimp [zb,za,CLe,ze,hca,hla]) (by push_cast -dsimp [zb,za,CLe,ze])⟩
     ·rw[if_neg hc]at hca hla
      push_cast -dsimp [g1,hle,hk,g2,hc]
      (try simp only[lS]);repeat refine And.intro (by omega) ?_
      exact ⟨k+1,hk,by omega,zS.mk [] rfl rfl (Nat.zero_le _) rfl (by push_cast -dsimp [zb,za,CLe,ze,hca,hla]) (by push_cast -dsimp [zb,za,CLe,ze])⟩
    ·have hkk:f.xs[i].es.take k=f.xs[i].es:=List.take_of_length_le (by omega)
     rw[hkk]
     have ht:=zab h
     push_cast -dsimp [g1,hle,hk]
     (try simp only[lS]);repeat refine And.intro (by omega) ?_
     exact ⟨i+1,h,by omega,zS.mk [] rfl rfl (Nat.zero_le _) rfl (by push_cast -dsimp [zb,za,CLe,ze,ht]) (by push_cast -dsimp [zb,za,CLe,ze])⟩
  ·rw[List.take_of_length_le (by omega)]
   push_cast -dsimp [hll,h]
   exact ⟨[],rfl,rfl,by push_cast -dsimp [zb,za,CLe,ze]⟩
end
end
section
open CA CB
open Go.RowKit
section
variable {G:zk}
theorem UZ (f:FsV) (hf:FsS f):Fun Tryz.prog G 70 [.agg (fsC f)] (.sc (.bool (decide (YV f)))) 0:=by
 have hll:(zt f.xs).length=f.xs.length:=List.length_map ..
 have h40:=hf.len
 refine Fun.of (fun _=>[]) Tryz.func70 rfl (zp rfl) (by kernel_rfl) ?_;dsimp only[Tryz.f70]
 push_cast -dsimp
 refine loop (fun i:Nat=>⟨[(1,.ptr 0 0),(3,.sc (.int .i64 i))],[fsC f],0,0⟩) (fun i=>i<=f.xs.length/\∀ x∈f.xs.take i,Zb f.xs x) (fun i=>f.xs.length-i) 0 ⟨Nat.zero_le _,fun x hx=>by simp at hx⟩ ?_ ?_
 ·exact zS.mk [] rfl rfl (Nat.zero_le _) rfl (by push_cast -dsimp [zb,za,CLe,ze]) (by push_cast -dsimp [zb,za,CLe,ze])
 ·rintro i ⟨h1,h2⟩
  by_cases h:i<f.xs.length
  ·have g1:=jh f.xs i h
   have hbad:¬Zb f.xs f.xs[i]->¬YV f:=fun hn h'=>hn (h' _ (List.getElem_mem h))
   have hdef:Zb f.xs f.xs[i]↔f.xs[i].links=Z8 f.xs[i].ino (qp f.xs)/\if f.xs[i].ino=1 then Z8 f.xs[i].ino (qp f.xs)=0/\f.xs[i].parent=1 else 1<=Z8 f.xs[i].ino (qp f.xs)/\(f.xs[i].kind=2->Z8 f.xs[i].ino (qp f.xs)=1/\f.xs[i].parent=UW f.xs[i].ino (qp f.xs)):=Iff.rfl
   push_cast -dsimp [hll,h,g1]
   (try simp only[lS]);repeat refine And.intro (by omega) ?_
   refine cl (um f f.xs[i].ino hf) ?_;push_cast -dsimp
   generalize Z8 f.xs[i].ino (qp f.xs)=c at hdef
   generalize UW f.xs[i].ino (qp f.xs)=d at hdef
   by_cases c1:f.xs[i].links=(c:Int)
   case neg =>
    have hn:=hbad fun h=>c1 (hdef.1 h).1
    push_cast -dsimp [c1]
    exact ⟨[],rfl,rfl,by push_cast -dsimp [zb,za,CLe,ze,hn]⟩
   by_cases c2:f.xs[i].ino=1
   ·rw[if_pos c2]at hdef
    by_cases c3:(c:Int)=0
    ·by_cases c4:f.xs[i].parent=1
     ·push_cast -dsimp [c1,c2,c3,c4]
      (try simp only[lS]);repeat refine And.intro (by omega) ?_
      exact ⟨i+1,⟨h,qK h h2 (hdef.2 ⟨c1,by omega,c4⟩)⟩,by omega,zS.mk [] rfl rfl (Nat.zero_le _) rfl (by push_cast -dsimp [zb,za,CLe,ze]) (by push_cast -dsimp [zb,za,CLe,ze])⟩
     ·have hn:=hbad fun h=>c4 (hdef.1 h).2.2
      push_cast -dsimp [c1,c2,c3,c4]
      exact ⟨[],rfl,rfl,by push_cast -dsimp [zb,za,CLe,ze,hn]⟩
    ·have hn:=hbad fun h=>by have:=(hdef.1 h).2.1;omega
     push_cast -dsimp [c1,c2,c3]
     exact ⟨[],rfl,rfl,by push_cast -dsimp [zb,za,CLe,ze,hn]⟩
   ·rw[if_neg c2]at hdef
    by_cases c3:(c:Int)<1
    ·have hn:=hbad fun h=>by have:=(hdef.1 h).2.1;omega
     push_cast -dsimp [c1,c2,c3]
     exact ⟨[],rfl,rfl,by push_cast -dsimp [zb,za,CLe,ze,hn]⟩
    by_cases c4:f.xs[i].kind=2
    ·by_cases c5:(c:Int)=1
     ·by_cases c6:f.xs[i].parent=d
      ·push_cast -dsimp [c1,c2,c3,c4,c5,c6]
       (try simp only[lS]);repeat refine And.intro (by omega) ?_
       exact ⟨i+1,⟨h,qK h h2 (hdef.2 ⟨c1,by omega,fun _=>⟨by omega,c6⟩⟩)⟩,by omega,zS.mk [] rfl rfl (Nat.zero_le _) rfl (by push_cast -dsimp [zb,za,CLe,ze]) (by push_cast -dsimp [zb,za,CLe,ze])⟩
      ·have hn:=hbad fun h=>c6 ((hdef.1 h).2.2 c4).2
       push_cast -dsimp [c1,c2,c3,c4,c5,c6]
       exact ⟨[],rfl,rfl,by push_cast -dsimp [zb,za,CLe,ze,hn]⟩
     ·have hn:=hbad fun h=>by have:=((hdef.1 h).2.2 c4).1;omega
      push_cast -dsimp [c1,c2,c3,c4,c5]
      exact ⟨[],rfl,rfl,by push_cast -dsimp [zb,za,CLe,ze,hn]⟩
    ·push_cast -dsimp [c1,c2,c3,c4]
     (try simp only[lS]);repeat refine And.intro (by omega) ?_
     exact ⟨i+1,⟨h,qK h h2 (hdef.2 ⟨c1,by omega,fun h=>absurd h c4⟩)⟩,by omega,zS.mk [] rfl rfl (Nat.zero_le _) rfl (by push_cast -dsimp [zb,za,CLe,ze]) (by push_cast -dsimp [zb,za,CLe,ze])⟩
  ·rw[List.take_of_length_le (by omega)]at h2
   have hn:YV f:=h2
   push_cast -dsimp [hll,h]
   exact ⟨[],rfl,rfl,by push_cast -dsimp [zb,za,CLe,ze,hn]⟩
end
end
section
open CA CB
open Go.RowKit
abbrev u6 (S:List Int):List (List C):=S.map fun n=>[C.sc (.int .i64 n)]
def Xl (S:List Int) (n:Int):List Int:=if n∈S then S else S++[n]
def Nd (S:List Int) (es:List zX):List Int:=es.foldl (fun s e=>Xl s e.ino) S
def Uj (xs:List zw):Nat->Nat->List Int->List Int
 | 0,_,S=>S
 | m+1,i,S=>match S[i]? with
  | some n=>Uj xs m (i+1) (Nd S (zg n xs).es)
  | none=>S
def Qw (f:FsV):Prop:=(Uj f.xs (f.xs.length+1) 0 [1]).length=f.xs.length
instance (f:FsV):Decidable (Qw f):=by unfold Qw;infer_instance
theorem Hk:∀ {S T:List Int},S.Nodup->(∀ n∈S,n∈T)->S.length<=T.length
 | [],T,_,_=>Nat.zero_le _
 | a :: r,T,hn,hs=>by
  have ha:=hs a List.mem_cons_self
  obtain ⟨h1,h2⟩:=List.nodup_cons.1 hn
  have:=Hk (S:=r) (T:=T.erase a) h2 fun n hr=>(List.mem_erase_of_ne (fun e=>h1 (by rw[←e];exact hr))).2 (hs n (List.mem_cons_of_mem _ hr))
  rw[List.length_erase_of_mem ha]at this
  have hpos:=List.length_pos_iff.2 (List.ne_nil_of_mem ha)
  rw[List.length_cons];omega
theorem xr {n:Int} {xs:List zw}:zF n xs=true↔n∈xs.map (·.ino):=by
 unfold zF
 rw[List.any_eq_true,List.mem_map]
 simp
theorem kQ {S:List Int} {xs:List zw} (hn:S.Nodup) (hs:∀ n∈S,zF n xs=true):S.length<=xs.length:=by
 have:=Hk (T:=xs.map (·.ino)) hn fun n h=>xr.1 (hs n h)
 rwa [List.length_map]at this
theorem G6 {S:List Int} {n:Int} (h:S.Nodup):(Xl S n).Nodup:=by
 unfold Xl
 split
 ·exact h
 ·rw[List.nodup_append]
  refine ⟨h,by simp,fun a ha b hb e=>?_⟩
  simp at hb;subst hb;subst e;contradiction
theorem kj {S:List Int} {n m:Int}:m∈Xl S n↔m∈S∨m=n:=by
 unfold Xl
 split
 ·constructor
  ·exact .inl
  ·rintro (h | h)
   ·exact h
   ·rw[h];assumption
 ·simp
theorem qG {n:Int} {xs:List zw} (h:zF n xs=true):zg n xs∈xs/\(zg n xs).ino=n:=by
 unfold zF at h
 unfold zg YM
 cases hq:xs.find? fun x=>x.ino==n with
 | none =>
  rw[List.find?_eq_none]at hq
  obtain ⟨x,hx,he⟩:=List.any_eq_true.1 h
  exact absurd he (hq x hx)
 | some y =>
  exact ⟨List.mem_of_find?_eq_some hq,by simpa using List.find?_some hq⟩
theorem zcQ {S:List Int} {es:List zX} {k:Nat} (h:k<es.length):Nd S (es.take (k+1))=Xl (Nd S (es.take k)) es[k].ino:=by
 unfold Nd
 rw[List.take_add_one,List.getElem?_eq_getElem h,List.foldl_append]
 rfl
theorem zf8 (es:List zX):∀ (S:List Int),S <+: Nd S es:=by
 induction es with
 | nil=>exact fun S=>List.prefix_refl S
 | cons e r ih =>
  intro S
  refine List.IsPrefix.trans ?_ (ih (Xl S e.ino))
  unfold Xl
  split
  ·exact List.prefix_refl S
  ·exact List.prefix_append S _
theorem zgV (S:List Int) (es:List zX):S.length<=(Nd S es).length:=(zf8 es S).length_le
structure Y6 (xs:List zw) (S:List Int):Prop where
 nodup:S.Nodup
 has:∀ n∈S,zF n xs=true
theorem Y6.len {xs:List zw} {S:List Int} (h:Y6 xs S):S.length<=xs.length:=kQ h.nodup h.has
theorem Y6.one {xs:List zw} {S:List Int} {n:Int} (h:Y6 xs S) (hn:zF n xs=true):Y6 xs (Xl S n):=⟨G6 h.nodup,fun m hm=>by
 rcases kj.1 hm with hm | rfl
 ·exact h.has m hm
 ·exact hn⟩
theorem zeN {S:List Int} {n:Int} {j:Nat} (h:j<S.length):((S.take (j+1)).any fun m=>decide (m=n))=(((S.take j).any fun m=>decide (m=n))||decide (S[j]=n)):=by
 rw[List.take_add_one,List.getElem?_eq_getElem h,List.any_append]
 simp
theorem zkw {S:List Int} {n:Int}:(S.any fun m=>decide (m=n))=decide (n∈S):=by
 rw[Bool.eq_iff_iff,List.any_eq_true,decide_eq_true_iff]
 constructor
 ·rintro ⟨m,hm,h⟩;exact (of_decide_eq_true h)▸hm
 ·exact fun h=>⟨n,h,decide_eq_true rfl⟩
theorem vb (S:List Int) (i:Nat) (h:i<S.length):(u6 S)[i]?=some [.sc (.int .i64 S[i])]:=by simp[List.getElem?_map,List.getElem?_eq_getElem h]
section
variable {G:zk}
theorem Ne (f:FsV) (hf:FsS f) (h3:Yx f) (h1:zF 1 f.xs=true):Fun Tryz.prog G 71 [.agg (fsC f)] (.sc (.bool (decide (Qw f)))) 0:=by
 have hll:(zt f.xs).length=f.xs.length:=List.length_map ..
 have h40:=hf.len
 refine Fun.of (fun i=>if i=5 then zbx 9 10 else []) Tryz.func71 rfl (zp rfl) (by kernel_rfl) ?_;dsimp only[Tryz.f71]
 push_cast -dsimp
 refine loop (fun p:Nat×List Int=>⟨[(1,.ptr 0 0),(3,.own 0 3 1 (u6 p.2)),(4,.sc (.int .i64 p.1))],[fsC f],1,0⟩) (fun p=>p.1<=p.2.length/\Y6 f.xs p.2/\Uj f.xs (f.xs.length+1-p.1) p.1 p.2=Uj f.xs (f.xs.length+1) 0 [1]) (fun p=>f.xs.length+1-p.1) (0,[1]) ⟨Nat.zero_le _,⟨by simp,fun n hn=>by simp at hn;subst hn;exact h1⟩,rfl⟩ ?_ ?_
 ·exact zS.mk [.inl 0] rfl rfl (Nat.zero_le _) rfl (by push_cast -dsimp [zb,za,CLe,ze]) (by push_cast -dsimp [zb,za,CLe,ze])
 ·rintro ⟨i,S⟩ ⟨k1,k2,k3⟩
  dsimp only at k1 k2 k3 ⊢
  have hSl:=k2.len
  have hli:(u6 S).length=S.length:=List.length_map ..
  by_cases h:i<S.length
  ·have g0:=vb S i h
   obtain ⟨hm,hino⟩:=qG (k2.has S[i] (List.getElem_mem h))
   push_cast -dsimp [hli,h,g0]
   (try simp only[lS]);repeat refine And.intro (by omega) ?_
   refine cl (Jl f S[i] (by omega)) ?_;push_cast -dsimp
   rw[show f.xs.length+1-i=(f.xs.length+1-(i+1))+1 by omega,Uj,List.getElem?_eq_getElem h]at k3
   dsimp only at k3
   generalize zg S[i] f.xs=x at hm hino k3
   have hx40:=(hf.node x hm).1
   have hle:(zL x.es).length=x.es.length:=List.length_map ..
   refine loop (fun k:Nat=>⟨[(1,.ptr 0 0),(3,.own 0 3 1 (u6 (Nd S (x.es.take k)))),(4,.sc (.int .i64 i)),(5,.ptr 1 0),(7,.sc (.int .i64 k))],[fsC f,Xg x],1,0⟩) (fun k=>k<=x.es.length/\Y6 f.xs (Nd S (x.es.take k))) (fun k=>x.es.length-k) 0 ⟨Nat.zero_le _,k2⟩ ?_ ?_
   ·exact zS.mk [.inl 0] rfl rfl (Nat.zero_le _) rfl (by push_cast -dsimp [zb,za,CLe,ze,List.take_zero,Nd,List.foldl_nil]) (by push_cast -dsimp [zb,za,CLe,ze])
   ·rintro k ⟨hk0,k4⟩
    by_cases hk:k<x.es.length
    ·have g2:=JD x.es k hk
     have hT:=k4.len
     have ht:=zcQ (S:=S) hk
     have hhas:zF x.es[k].ino f.xs=true:=h3 x hm _ (List.getElem_mem hk)
     have k5:=k4.one hhas
     rw[←ht]at k5
     generalize hT1:Nd S (x.es.take (k+1))=T1 at ht k5
     generalize Nd S (x.es.take k)=T at k4 hT ht
     have hlT:(u6 T).length=T.length:=List.length_map ..
     generalize hn:x.es[k].ino=n at g2 ht
     push_cast -dsimp [hle,hk]
     refine loop (fun j:Nat=>⟨[(1,.ptr 0 0),(3,.own 0 3 1 (u6 T)),(4,.sc (.int .i64 i)),(5,.ptr 1 0),(7,.sc (.int .i64 k)),(8,.sc (.bool ((T.take j).any fun m=>decide (m=n)))),(9,.sc (.int .i64 j))],[fsC f,Xg x],1,0⟩) (fun j=>j<=T.length) (fun j=>T.length-j) 0 (Nat.zero_le _) ?_ ?_
     ·exact zS.mk [.inl 0] rfl rfl (Nat.zero_le _) rfl (by push_cast -dsimp [zb,za,CLe,ze,List.take_zero,List.any_nil]) (by push_cast -dsimp [zb,za,CLe,ze])
     ·intro j hj0
      by_cases hj:j<T.length
      ·have g3:=vb T j hj
       have ha:=zeN (n:=n) hj
       by_cases hq:((T.take j).any fun m=>decide (m=n))=true
       ·rw[hq,Bool.true_or]at ha
        push_cast -dsimp [hlT,hj,hq]
        (try simp only[lS]);repeat refine And.intro (by omega) ?_
        exact ⟨j+1,hj,by omega,zS.mk [.inl 0] rfl rfl (Nat.zero_le _) rfl (by push_cast -dsimp [zb,za,CLe,ze,ha]) (by push_cast -dsimp [zb,za,CLe,ze])⟩
       ·have hq:=Bool.eq_false_iff.2 hq
        rw[hq,Bool.false_or]at ha
        push_cast -dsimp [hlT,hj,hq,g3,g2,hn]
        (try simp only[lS]);repeat refine And.intro (by omega) ?_
        exact ⟨j+1,hj,by omega,zS.mk [.inl 0] rfl rfl (Nat.zero_le _) rfl (by push_cast -dsimp [zb,za,CLe,ze,ha]) (by push_cast -dsimp [zb,za,CLe,ze])⟩
      ·have hTj:(T.take j)=T:=List.take_of_length_le (by omega)
       have hany:=zkw (S:=T) (n:=n)
       unfold Xl at ht
       by_cases hin:n∈T
       ·rw[if_pos hin]at ht
        rw[decide_eq_true hin]at hany
        push_cast -dsimp [hlT,hj,hTj,hany]
        (try simp only[lS]);repeat refine And.intro (by omega) ?_
        exact ⟨k+1,⟨hk,by rw[hT1];exact k5⟩,by omega,zS.mk [.inl 0] rfl rfl (Nat.zero_le _) rfl (by push_cast -dsimp [zb,za,CLe,ze,hT1,ht]) (by push_cast -dsimp [zb,za,CLe,ze])⟩
       ·rw[if_neg hin]at ht
        rw[decide_eq_false hin]at hany
        push_cast -dsimp [hlT,hj,hTj,hany,g2,hn]
        (try simp only[lS]);repeat refine And.intro (by omega) ?_
        exact ⟨k+1,⟨hk,by rw[hT1];exact k5⟩,by omega,zS.mk [.inl 0] rfl rfl (Nat.zero_le _) rfl (by push_cast -dsimp [zb,za,CLe,ze,hT1,ht,List.map_append]) (by push_cast -dsimp [zb,za,CLe,ze])⟩
    ·have hkk:x.es.take k=x.es:=List.take_of_length_le (by omega)
     rw[hkk]at k4
     have hge:i+1<=(Nd S x.es).length:=Nat.le_trans h (zgV S x.es)
     push_cast -dsimp [hle,hk,hkk]
     (try simp only[lS]);repeat refine And.intro (by omega) ?_
     exact ⟨(i+1,Nd S x.es),⟨hge,k4,k3⟩,by dsimp only;omega,zS.mk [.inl 0] rfl rfl (Nat.zero_le _) rfl (by push_cast -dsimp [zb,za,CLe,ze]) (by push_cast -dsimp [zb,za,CLe,ze])⟩
  ·push_cast -dsimp [hli,h]
   have hfin:Uj f.xs (f.xs.length+1-i) i S=S:=by
    rw[show f.xs.length+1-i=(f.xs.length-i)+1 by omega,Uj,List.getElem?_eq_none (by omega)]
   rw[hfin]at k3
   have hn:Qw f↔S.length=f.xs.length:=by unfold Qw;rw[←k3]
   exact ⟨[],rfl,rfl,by push_cast -dsimp [zb,za,CLe,ze,hn,hll]⟩
end
end
section
open CA CB
open Go.RowKit
def Xb (es:List zX):Prop:=∀ i (h:i<es.length),may es[i].name=true/\1<=es[i].ino/\(0<i->Op.bytesLess es[i-1].name es[i].name=true)
instance (es:List zX):Decidable (Xb es):=by unfold Xb;infer_instance
def Ym (x:zw):Prop:=(x.kind=1∨x.kind=2∨x.kind=3)/\(x.kind≠2->x.es = []/\x.parent=0)/\(x.kind=2->x.data = []/\Xb x.es)/\(x.kind=3->1<=x.data.length/\x.data.length<=4095/\∀ b∈x.data,b≠0)
instance (x:zw):Decidable (Ym x):=by unfold Ym;infer_instance
def YP (f:FsV):Prop:=∀ x∈f.xs,Ym x
instance (f:FsV):Decidable (YP f):=by unfold YP;infer_instance
def Yg (f:FsV):Int:=if Jw f then if YP f then if Yx f then if YV f then if Qw f then if kP f then 0 else 6 else 5 else 4 else 3 else 2 else 1
def okV (f:FsV):Prop:=U8 f.xs/\Yg f=0
instance (f:FsV):Decidable (okV f):=by unfold okV;infer_instance
theorem zcT (es:List zX) (hl:es.length<=100000) (hn:∀ e∈es,e.name.length<=1000000):Fun Tryz.prog G0 112 [.sl 2 (zL es)] (jN (decide (Xb es))) 0:=by
 have hle:(zL es).length=es.length:=List.length_map ..
 refine Fun.of (fun _=>[]) Tryz.func112 rfl (zp rfl) (by kernel_rfl) ?_;dsimp only[Tryz.f112]
 push_cast -dsimp
 refine loop (fun i:Nat=>⟨[(0,.sl 2 (zL es)),(3,.sc (.int .i64 i))],[],0,0⟩) (fun i=>i<=es.length/\∀ j (h:j<es.length),j<i->may es[j].name=true/\1<=es[j].ino/\(0<j->Op.bytesLess es[j-1].name es[j].name=true)) (fun i=>es.length-i) 0 ⟨Nat.zero_le _,fun j h h'=>absurd h' (Nat.not_lt_zero _)⟩ ?_ ?_
 ·exact zS.mk [] rfl rfl (Nat.zero_le _) rfl (by push_cast -dsimp [zb,za,CLe,ze]) (by push_cast -dsimp [zb,za,CLe,ze])
 ·rintro i ⟨h1,h2⟩
  by_cases h:i<es.length
  ·have g1:=JD es i h
   have hm:=Zr es[i].name (hn _ (List.getElem_mem h))
   push_cast -dsimp [hle,h,g1]
   (try simp only[lS]);repeat refine And.intro (by omega) ?_
   cases c1:may es[i].name with
   | false =>
    have hno:¬Xb es:=fun hr=>by have:=(hr i h).1;rw[c1]at this;cases this
    refine cl (hm) ?_;push_cast -dsimp [c1]
    exact ⟨[],rfl,rfl,by push_cast -dsimp [zb,za,CLe,ze,hno]⟩
   | true =>
    by_cases c2:es[i].ino<1
    ·have hno:¬Xb es:=fun hr=>by have:=(hr i h).2.1;omega
     refine cl (hm) ?_;push_cast -dsimp [c1,g1,c2]
     (try simp only[lS]);repeat refine And.intro (by omega) ?_
     exact ⟨[],rfl,rfl,by push_cast -dsimp [zb,za,CLe,ze,hno]⟩
    ·have step:(0<i->Op.bytesLess es[i-1].name es[i].name=true)->∀ j (h:j<es.length),j<i+1->may es[j].name=true/\1<=es[j].ino/\(0<j->Op.bytesLess es[j-1].name es[j].name=true):=fun hb j hj hlt=>by
      rcases Nat.lt_or_ge j i with q | q
      ·exact h2 j hj q
      ·have:j=i:=by omega
       subst this
       exact ⟨c1,by omega,hb⟩
     by_cases c3:0<i
     ·have g2:=JD es (i-1) (by omega)
      have e1:(i:Int)-1=((i-1:Nat):Int):=by omega
      cases c4:Op.bytesLess es[i-1].name es[i].name with
      | true =>
       refine cl (hm) ?_;push_cast -dsimp [c1,g1,c2]
       (try simp only[lS]);repeat refine And.intro (by omega) ?_
       push_cast -dsimp [c3,e1,g2,g1,c4]
       (try simp only[lS]);repeat refine And.intro (by omega) ?_
       exact ⟨i+1,⟨h,step fun _=>c4⟩,by omega,zS.mk [] rfl rfl (Nat.zero_le _) rfl (by push_cast -dsimp [zb,za,CLe,ze]) (by push_cast -dsimp [zb,za,CLe,ze])⟩
      | false =>
       have hno:¬Xb es:=fun hr=>by have:=(hr i h).2.2 c3;rw[c4]at this;cases this
       refine cl (hm) ?_;push_cast -dsimp [c1,g1,c2]
       (try simp only[lS]);repeat refine And.intro (by omega) ?_
       push_cast -dsimp [c3,e1,g2,g1,c4]
       (try simp only[lS]);repeat refine And.intro (by omega) ?_
       exact ⟨[],rfl,rfl,by push_cast -dsimp [zb,za,CLe,ze,hno]⟩
     ·refine cl (hm) ?_;push_cast -dsimp [c1,g1,c2]
      (try simp only[lS]);repeat refine And.intro (by omega) ?_
      push_cast -dsimp [c3]
      (try simp only[lS]);repeat refine And.intro (by omega) ?_
      exact ⟨i+1,⟨h,step fun h=>absurd h c3⟩,by omega,zS.mk [] rfl rfl (Nat.zero_le _) rfl (by push_cast -dsimp [zb,za,CLe,ze]) (by push_cast -dsimp [zb,za,CLe,ze])⟩
  ·have hr:Xb es:=fun j hj=>h2 j hj (by omega)
   push_cast -dsimp [hle,h]
   exact ⟨[],rfl,rfl,by push_cast -dsimp [zb,za,CLe,ze,hr]⟩
end
section
open CA CB
open Go.RowKit
theorem kf (f:FsV) (hf:FsS f):Fun Tryz.prog G0 68 [.agg (fsC f)] (jN (decide (YP f))) 0:=by
 have hll:(zt f.xs).length=f.xs.length:=List.length_map ..
 have h40:=hf.len
 refine Fun.of (fun _=>[]) Tryz.func68 rfl (zp rfl) (by kernel_rfl) ?_;dsimp only[Tryz.f68]
 push_cast -dsimp
 refine loop (fun i:Nat=>⟨[(1,.ptr 0 0),(3,.sc (.int .i64 i))],[fsC f],0,0⟩) (fun i=>i<=f.xs.length/\∀ x∈f.xs.take i,Ym x) (fun i=>f.xs.length-i) 0 ⟨Nat.zero_le _,fun x hx=>by simp at hx⟩ ?_ ?_
 ·exact zS.mk [] rfl rfl (Nat.zero_le _) rfl (by push_cast -dsimp [zb,za,CLe,ze]) (by push_cast -dsimp [zb,za,CLe,ze])
 ·rintro i ⟨h1,h2⟩
  by_cases h:i<f.xs.length
  case neg =>
   rw[List.take_of_length_le (by omega)]at h2
   have hn:YP f:=h2
   push_cast -dsimp [hll,h]
   exact ⟨[],rfl,rfl,by push_cast -dsimp [zb,za,CLe,ze,hn]⟩
  have g1:=jh f.xs i h
  have hbad:¬Ym f.xs[i]->¬YP f:=fun hn h'=>hn (h' _ (List.getElem_mem h))
  have hs:=hf.node _ (List.getElem_mem h)
  have step:Ym f.xs[i]->∀ x∈f.xs.take (i+1),Ym x:=fun hq=>qK h h2 hq
  push_cast -dsimp [hll,h,g1]
  (try simp only[lS]);repeat refine And.intro (by omega) ?_
  generalize f.xs[i]=x at g1 hbad hs step
  have hle:(zL x.es).length=x.es.length:=List.length_map ..
  have hent:x.es.length<=10000:=hs.1
  by_cases k2:x.kind=2
  ·by_cases d0:x.data = []
   ·have hr:=zcT x.es (by omega) fun e he=>by have:=hs.2.2 e he;omega
    cases c1:decide (Xb x.es) with
    | false =>
     have hn:=hbad fun hq=>of_decide_eq_false c1 (hq.2.2.1 k2).2
     push_cast -dsimp [k2,d0]
     refine cl (hr) ?_;push_cast -dsimp [c1]
     exact ⟨[],rfl,rfl,by push_cast -dsimp [zb,za,CLe,ze,hn]⟩
    | true =>
     have hq:Ym x:=⟨.inr (.inl k2),fun h=>absurd k2 h,fun _=>⟨d0,of_decide_eq_true c1⟩,fun h=>by omega⟩
     push_cast -dsimp [k2,d0]
     refine cl (hr) ?_;push_cast -dsimp [c1,k2]
     refine loop (fun j:Nat=>⟨[(1,.ptr 0 0),(3,.sc (.int .i64 i)),(4,.ptr 1 0),(5,.sc (.int .i64 j))],[fsC f,Xg x],0,0⟩) (fun j=>j=0) (fun j=>0) 0 rfl ?_ ?_
     ·exact zS.mk [] rfl rfl (Nat.zero_le _) rfl (by push_cast -dsimp [zb,za,CLe,ze,k2,d0]) (by push_cast -dsimp [zb,za,CLe,ze,k2,d0])
     ·rintro j rfl
      push_cast -dsimp [d0]
      (try simp only[lS]);repeat refine And.intro (by omega) ?_
      exact ⟨i+1,⟨h,step hq⟩,by omega,zS.mk [] rfl rfl (Nat.zero_le _) rfl (by push_cast -dsimp [zb,za,CLe,ze]) (by push_cast -dsimp [zb,za,CLe,ze])⟩
   ·have hn:=hbad fun hq=>d0 (hq.2.2.1 k2).1
    push_cast -dsimp [k2,d0]
    exact ⟨[],rfl,rfl,by push_cast -dsimp [zb,za,CLe,ze,hn]⟩
  by_cases e0:x.es = []
  case neg =>
   have hn:=hbad fun hq=>e0 (hq.2.1 k2).1
   have hpos:0<(x.es.length:Int):=by have:=List.length_pos_iff.2 e0;omega
   by_cases k1:x.kind=1
   ·push_cast -dsimp [k1,hle,hpos]
    exact ⟨[],rfl,rfl,by push_cast -dsimp [zb,za,CLe,ze,hn]⟩
   ·by_cases k3:x.kind=3
    ·push_cast -dsimp [k1,k2,k3,hle,hpos]
     exact ⟨[],rfl,rfl,by push_cast -dsimp [zb,za,CLe,ze,hn]⟩
    ·have hn:=hbad fun hq=>by rcases hq.1 with q | q | q<;>contradiction
     push_cast -dsimp [k1,k2,k3]
     exact ⟨[],rfl,rfl,by push_cast -dsimp [zb,za,CLe,ze,hn]⟩
  have hl0:x.es.length=0:=by rw[e0];rfl
  by_cases p0:x.parent=0
  case neg =>
   have hn:=hbad fun hq=>p0 (hq.2.1 k2).2
   by_cases k1:x.kind=1
   ·push_cast -dsimp [k1,hle,hl0,p0]
    exact ⟨[],rfl,rfl,by push_cast -dsimp [zb,za,CLe,ze,hn]⟩
   ·by_cases k3:x.kind=3
    ·push_cast -dsimp [k1,k2,k3,hle,hl0,p0]
     exact ⟨[],rfl,rfl,by push_cast -dsimp [zb,za,CLe,ze,hn]⟩
    ·have hn:=hbad fun hq=>by rcases hq.1 with q | q | q<;>contradiction
     push_cast -dsimp [k1,k2,k3]
     exact ⟨[],rfl,rfl,by push_cast -dsimp [zb,za,CLe,ze,hn]⟩
  by_cases k1:x.kind=1
  ·have hq:Ym x:=⟨.inl k1,fun _=>⟨e0,p0⟩,fun h=>absurd h k2,fun h=>by omega⟩
   push_cast -dsimp [k1,hle,hl0,p0]
   refine loop (fun j:Nat=>⟨[(1,.ptr 0 0),(3,.sc (.int .i64 i)),(4,.ptr 1 0),(5,.sc (.int .i64 j))],[fsC f,Xg x],0,0⟩) (fun j=>j=0) (fun j=>0) 0 rfl ?_ ?_
   ·exact zS.mk [] rfl rfl (Nat.zero_le _) rfl (by push_cast -dsimp [zb,za,CLe,ze,k1,p0]) (by push_cast -dsimp [zb,za,CLe,ze,k1,p0])
   ·rintro j rfl
    by_cases hd:(0:Int)<x.data.length
    ·push_cast -dsimp [hd,k1]
     (try simp only[lS]);repeat refine And.intro (by omega) ?_
     exact ⟨i+1,⟨h,step hq⟩,by omega,zS.mk [] rfl rfl (Nat.zero_le _) rfl (by push_cast -dsimp [zb,za,CLe,ze]) (by push_cast -dsimp [zb,za,CLe,ze])⟩
    ·push_cast -dsimp [hd,k1]
     (try simp only[lS]);repeat refine And.intro (by omega) ?_
     exact ⟨i+1,⟨h,step hq⟩,by omega,zS.mk [] rfl rfl (Nat.zero_le _) rfl (by push_cast -dsimp [zb,za,CLe,ze]) (by push_cast -dsimp [zb,za,CLe,ze])⟩
  by_cases k3:x.kind=3
  case neg =>
   have hn:=hbad fun hq=>by rcases hq.1 with q | q | q<;>contradiction
   push_cast -dsimp [k1,k2,k3]
   exact ⟨[],rfl,rfl,by push_cast -dsimp [zb,za,CLe,ze,hn]⟩
  by_cases l1:(x.data.length:Int)<1
  ·have hn:=hbad fun hq=>by have:=(hq.2.2.2 k3).1;omega
   push_cast -dsimp [k1,k2,k3,hle,hl0,p0,l1]
   exact ⟨[],rfl,rfl,by push_cast -dsimp [zb,za,CLe,ze,hn]⟩
  by_cases l2:4095<(x.data.length:Int)
  ·have hn:=hbad fun hq=>by have:=(hq.2.2.2 k3).2.1;omega
   push_cast -dsimp [k1,k2,k3,hle,hl0,p0,l1,l2]
   exact ⟨[],rfl,rfl,by push_cast -dsimp [zb,za,CLe,ze,hn]⟩
  push_cast -dsimp [k1,k2,k3,hle,hl0,p0,l1,l2]
  refine loop (fun j:Nat=>⟨[(1,.ptr 0 0),(3,.sc (.int .i64 i)),(4,.ptr 1 0),(5,.sc (.int .i64 j))],[fsC f,Xg x],0,0⟩) (fun j=>j<=x.data.length/\∀ b∈x.data.take j,b≠0) (fun j=>x.data.length-j) 0 ⟨Nat.zero_le _,fun b hb=>by simp at hb⟩ ?_ ?_
  ·exact zS.mk [] rfl rfl (Nat.zero_le _) rfl (by push_cast -dsimp [zb,za,CLe,ze,k3,p0]) (by push_cast -dsimp [zb,za,CLe,ze,k3,p0])
  ·rintro j ⟨j1,j2⟩
   by_cases hj:j<x.data.length
   ·have hb:x.data[j]?=some x.data[j]:=List.getElem?_eq_getElem hj
    by_cases z:(x.data[j].toNat:Int)=0
    ·have hn:=hbad fun hq=>(hq.2.2.2 k3).2.2 _ (List.getElem_mem hj) (UInt8.toNat_inj.1 (by simpa using z))
     push_cast -dsimp [hj,k3,hb,z]
     (try simp only[lS]);repeat refine And.intro (by omega) ?_
     exact ⟨[],rfl,rfl,by push_cast -dsimp [zb,za,CLe,ze,hn]⟩
    ·push_cast -dsimp [hj,k3,hb,z]
     (try simp only[lS]);repeat refine And.intro (by omega) ?_
     exact ⟨j+1,⟨hj,qK hj j2 fun hz=>z (by rw[hz];rfl)⟩,by omega,zS.mk [] rfl rfl (Nat.zero_le _) rfl (by push_cast -dsimp [zb,za,CLe,ze]) (by push_cast -dsimp [zb,za,CLe,ze])⟩
   ·rw[List.take_of_length_le (by omega)]at j2
    have hq:Ym x:=⟨.inr (.inr k3),fun _=>⟨e0,p0⟩,fun h=>absurd h k2,fun _=>⟨by omega,by omega,j2⟩⟩
    push_cast -dsimp [hj,k3]
    (try simp only[lS]);repeat refine And.intro (by omega) ?_
    exact ⟨i+1,⟨h,step hq⟩,by omega,zS.mk [] rfl rfl (Nat.zero_le _) rfl (by push_cast -dsimp [zb,za,CLe,ze]) (by push_cast -dsimp [zb,za,CLe,ze])⟩
theorem zbs (f:FsV) (hf:FsS f):Fun Tryz.prog G0 37 [.agg (fsC f)] (.sc (.int .i64 (Yg f))) 0:=by
 have h40:=hf.len
 have hb:jk f.xs<=100000000:=by have:=hf.bytes;omega
 refine Fun.of (fun _=>[]) Tryz.func37 rfl (zp rfl) (by kernel_rfl) ?_;dsimp only[Tryz.f37]
 push_cast -dsimp
 by_cases c1:Jw f
 case neg =>
  refine cl (N8 f (by omega)) ?_;push_cast -dsimp [decide_eq_false c1]
  exact ⟨[],rfl,rfl,by push_cast -dsimp [zb,za,CLe,ze,Yg,c1]⟩
 refine cl (N8 f (by omega)) ?_;push_cast -dsimp [decide_eq_true c1]
 by_cases c2:YP f
 case neg =>
  refine cl (kf f hf) ?_;push_cast -dsimp [decide_eq_false c2]
  exact ⟨[],rfl,rfl,by push_cast -dsimp [zb,za,CLe,ze,Yg,c1,c2]⟩
 refine cl (kf f hf) ?_;push_cast -dsimp [decide_eq_true c2]
 by_cases c3:Yx f
 case neg =>
  refine cl (GG f hf) ?_;push_cast -dsimp [decide_eq_false c3]
  exact ⟨[],rfl,rfl,by push_cast -dsimp [zb,za,CLe,ze,Yg,c1,c2,c3]⟩
 refine cl (GG f hf) ?_;push_cast -dsimp [decide_eq_true c3]
 by_cases c4:YV f
 case neg =>
  refine cl (UZ f hf) ?_;push_cast -dsimp [decide_eq_false c4]
  exact ⟨[],rfl,rfl,by push_cast -dsimp [zb,za,CLe,ze,Yg,c1,c2,c3,c4]⟩
 refine cl (UZ f hf) ?_;push_cast -dsimp [decide_eq_true c4]
 by_cases c5:Qw f
 case neg =>
  refine cl (Ne f hf c3 c1.2.2.2.2.2.2.2.1) ?_;push_cast -dsimp [decide_eq_false c5]
  exact ⟨[],rfl,rfl,by push_cast -dsimp [zb,za,CLe,ze,Yg,c1,c2,c3,c4,c5]⟩
 refine cl (Ne f hf c3 c1.2.2.2.2.2.2.2.1) ?_;push_cast -dsimp [decide_eq_true c5]
 by_cases c6:kP f
 case neg =>
  refine cl (vG f hf hb) ?_;push_cast -dsimp [decide_eq_false c6]
  exact ⟨[],rfl,rfl,by push_cast -dsimp [zb,za,CLe,ze,Yg,c1,c2,c3,c4,c5,c6]⟩
 refine cl (vG f hf hb) ?_;push_cast -dsimp [decide_eq_true c6]
 exact ⟨[],rfl,rfl,by push_cast -dsimp [zb,za,CLe,ze,Yg,c1,c2,c3,c4,c5,c6]⟩
theorem znd (f:FsV):Fun Tryz.prog G0 11 [.agg (fsC f)] (jN (decide (okV f))) 0:=by
 refine Fun.of (fun _=>[]) Tryz.func11 rfl (zp rfl) (by kernel_rfl) ?_;dsimp only[Tryz.f11]
 push_cast -dsimp
 by_cases c1:U8 f.xs
 case neg =>
  have hn:¬okV f:=fun h=>c1 h.1
  refine cl (vk f) ?_;push_cast -dsimp [decide_eq_false c1]
  exact ⟨[],rfl,rfl,by push_cast -dsimp [zb,za,CLe,ze,hn]⟩
 refine cl (vk f) ?_;push_cast -dsimp [decide_eq_true c1]
 refine cl (zbs f c1.fs) ?_;push_cast -dsimp
 exact ⟨[],rfl,rfl,by push_cast -dsimp [zb,za,CLe,ze,okV,c1]⟩
end
section
open CA CB
open Go.RowKit
def zlv (x:zw) (k:zT):Bool:=decide (k.ino=x.ino)&&!k.content
def xu (w:jt) (x:zw):Prop:=zF x.ino w.fs.xs=false/\1<=x.ino/\x.ino<w.fs.next/\x.links=0/\x.parent=0/\x.es = []/\(x.kind=1∨x.kind=2∨x.kind=3)/\(x.kind=2->x.data = [])/\(x.kind=3->1<=x.data.length/\x.data.length<=4095/\∀ b∈x.data,b≠0)/\w.kept.any (zlv x)=true
instance (w:jt) (x:zw):Decidable (xu w x):=by unfold xu;infer_instance
end
section
open CA CB
open Go.RowKit
def zmF (w:jt):Prop:=(∀ k∈w.kept,k.data.length<=5000)/\U8 w.fs.xs/\U8 w.pool/\w.kept.length<=40
instance (w:jt):Decidable (zmF w):=by unfold zmF;infer_instance
def zer (w:jt) (k:zT):Prop:=k.slot<=1073741824/\(zF k.ino w.fs.xs=true∨zF k.ino w.pool=true)/\(k.content=true->(if zF k.ino w.pool=true then zg k.ino w.pool else zg k.ino w.fs.xs).kind=1)/\(k.content=false->k.data = [])
instance (w:jt) (k:zT):Decidable (zer w k):=by unfold zer;infer_instance
def yG (ks:List zT):Prop:=qD j3 zT.slot ks/\∀ k∈ks,1<=k.slot
instance (ks:List zT):Decidable (yG ks):=by unfold yG qD;infer_instance
def zbT (w:jt):Prop:=Yg w.fs=0/\zZ w.pool/\(∀ x∈w.pool,xu w x)/\yG w.kept/\∀ k∈w.kept,zer w k
instance (w:jt):Decidable (zbT w):=by unfold zbT;infer_instance
def okW (w:jt):Prop:=zmF w/\zbT w
instance (w:jt):Decidable (okW w):=by unfold okW;infer_instance
theorem xf {ks:List zT} (h:yG ks):0<=Vr ks/\∀ k∈ks,k.slot<=Vr ks:=by
 rcases List.eq_nil_or_concat ks with rfl | ⟨l,b,rfl⟩
 ·exact ⟨Int.le_refl 0,fun k hk=>by cases hk⟩
 ·rw[List.concat_eq_append]at h ⊢
  have hl:Vr (l++[b])=b.slot:=by unfold Vr;rw[List.getLast?_append];rfl
  rw[hl]
  have hb:=h.2 b (by simp)
  refine ⟨by omega,fun k hk=>?_⟩
  rcases List.mem_append.1 hk with hk | hk
  ·have:=(List.pairwise_append.1 h.1).2.2 k hk b (by simp)
   have:k.slot<b.slot:=of_decide_eq_true this
   omega
  ·rw[List.mem_singleton.1 hk];exact Int.le_refl _
structure zp7 (w:jt):Prop where
 fs:FsS w.fs
 kept:w.kept.length<=10000
 pool:FsS ⟨0,0,0,w.pool⟩
theorem zmF.m {w:jt} (h:zmF w):zp7 w:=⟨h.2.1.fs,by have:=h.2.2.2;omega,U8.fs (f:=⟨0,0,0,w.pool⟩) h.2.2.1⟩
end
section
open Go.RowKit
section
variable {G:zk}
theorem zea (n:Nat) (hn:n<=200000) (h0:0<n):Jz Tryz.prog G 100 [.sc (.slice none 0 0),.sc (.int .i64 n)] [] 0 (fun r bx' m=>m=0/\∃ (c:Nat) (B:List C),n<=c/\c<=9223372036854775807/\B.length=c*5/\(B.all C.stayB)=true/\r = .bs 0 0 5 0 c/\bx' = [B]):=by
 have hp:((n:Int)<0)=False:=eq_false (by omega)
 have hq:((0:Int)<(n:Int))=True:=eq_true (by omega)
 refine Jz.of (fun i=>if i=1000000+30 then [true,true] else []) Tryz.func100 rfl (zp rfl) (by kernel_rfl) ?_;dsimp only[Tryz.f100]
 push_cast -dsimp [hp,hq]
 refine ⟨⟨by omega,by omega⟩,zcC zfG zle zhk rfl (by decide) rfl (by omega) (by omega) (by omega) (fun c h1 h2=>?_)⟩
 push_cast -dsimp
 have hm:(n:Int).toNat=n:=by omega
 rw[hm]at h1
 have h2:c<=9223372036854775807:=h2
 refine ⟨by omega,by omega,_,[(List.replicate n [C.sc (.int .i64 0),C.sc (.int .i64 0),C.str [],C.str [],C.str []]).flatten++List.replicate ((c-n)*5) C.any],0,⟨⟨rfl,c,_,h1,h2,?_,?_,rfl,rfl⟩,Nat.zero_le _⟩,[],rfl,rfl,?_,by push_cast -dsimp [zb,za,CLe,ze]⟩
 ·simp[hm];omega
 ·simp[List.all_append,List.all_replicate,C.stayB]
 ·push_cast -dsimp [zb,za,CLe,ze]
  exact zQ (by simp[List.all_append,List.all_replicate,C.stayB])
theorem zcr (n:Nat) (hn:n<=200000) (h0:0<n):Jz Tryz.prog G 101 [.sc (.slice none 0 0),.sc (.int .i64 n)] [] 0 (fun r bx' m=>m=0/\∃ (c:Nat) (B:List C),n<=c/\c<=9223372036854775807/\B.length=c*1/\(B.all C.stayB)=true/\r = .bs 0 0 1 0 c/\bx' = [B]):=by
 have hp:((n:Int)<0)=False:=eq_false (by omega)
 have hq:((0:Int)<(n:Int))=True:=eq_true (by omega)
 refine Jz.of (fun i=>if i=1000000+33 then [true,true] else []) Tryz.func101 rfl (zp rfl) (by kernel_rfl) ?_;dsimp only[Tryz.f101]
 push_cast -dsimp [hp,hq]
 refine ⟨⟨by omega,by omega⟩,zcC UQ zle ze4 rfl (by decide) rfl (by omega) (by omega) (by omega) (fun c h1 h2=>?_)⟩
 push_cast -dsimp
 have hm:(n:Int).toNat=n:=by omega
 rw[hm]at h1
 have h2:c<=9223372036854775807:=h2
 refine ⟨by omega,by omega,_,[(List.replicate n [C.str []]).flatten++List.replicate ((c-n)*1) C.any],0,⟨⟨rfl,c,_,h1,h2,?_,?_,rfl,rfl⟩,Nat.zero_le _⟩,[],rfl,rfl,?_,by push_cast -dsimp [zb,za,CLe,ze]⟩
 ·simp[hm];omega
 ·simp[List.all_append,List.all_replicate,C.stayB]
 ·push_cast -dsimp [zb,za,CLe,ze]
  exact zQ (by simp[List.all_append,List.all_replicate,C.stayB])
end
end
section
open Go.RowKit
def szN (a b:Nat):Nat->Nat
 | 0=>0
 | 1=>a
 | _=>a+b
def znR {α:Type} (a b:List α):Nat->List α
 | 0=>[]
 | 1=>a
 | _=>a++b
structure Hy (k c:Nat) (a b:List (List C)) (j:Nat) (X:List C):Prop where
 len:X.length=c*k
 stay:(X.all C.stayB)=true
 cells:X.take (szN a.length b.length j*k)=(znR a b j).flatten
theorem Hy.step {k c:Nat} {a b r:List (List C)} {j:Nat} {X:List C} (h:Hy k c a b j X) (hr:znR a b (j+1)=znR a b j++r) (hn:szN a.length b.length (j+1)=szN a.length b.length j+r.length) (hk:∀ x∈r,x.length=k) (hs:qU r) (hc:szN a.length b.length (j+1)<=c) :
  Hy k c a b (j+1) (spl X (szN a.length b.length j*k) r.flatten):=by
 have hf:=zG hk
 obtain ⟨h1,h2,h3⟩:=h
 have hle:(szN a.length b.length j+r.length)*k<=c*k:=Nat.mul_le_mul_right k (by omega)
 rw[Nat.add_mul]at hle
 refine ⟨by rw[X7 (by omega)];exact h1,?_,?_⟩
 ·unfold spl
  rw[List.all_append,List.all_append,Bool.and_eq_true,Bool.and_eq_true]
  rw[List.all_eq_true]at h2
  exact ⟨⟨List.all_eq_true.2 fun x hx=>h2 x (List.mem_of_mem_take hx),YG hs⟩,List.all_eq_true.2 fun x hx=>h2 x (List.mem_of_mem_drop hx)⟩
 ·unfold spl
  rw[hn,Nat.add_mul,hr,List.flatten_append,←h3,List.append_assoc,List.take_append]
  have e1:(X.take (szN a.length b.length j*k)).length=szN a.length b.length j*k:=by rw[List.length_take];omega
  rw[e1,List.take_of_length_le (by omega),Nat.add_sub_cancel_left,List.take_append,←hf,List.take_of_length_le (Nat.le_refl _)]
  simp
section
variable {G:zk}
theorem xi (a b:List (List C)) (ka:∀ r∈a,r.length=5) (kb:∀ r∈b,r.length=5) (sa:qU a) (sb:qU b) (la:a.length<=90000) (lb:b.length<=90000) (h0:0<b.length) :
  Fun Tryz.prog G 58 [.sl 1 [[.sl 5 a],[.sl 5 b]]] (.own 0 63 5 (a++b)) 1:=by
 refine Fun.ofF (fun i=>if i=1000000+30 then [true,true] else []) Tryz.func58 rfl (zp rfl) (by kernel_rfl) ?_;dsimp only[Tryz.f58]
 push_cast -dsimp
 refine loop (fun j:Nat=>⟨[(0,.sl 1 [[.sl 5 a],[.sl 5 b]]),(2,.sc (.slice none 0 0)),(3,.sc (.int .i64 (szN a.length b.length j:Nat))),(9,.sl 1 [[.sl 5 a],[.sl 5 b]]),(10,.sc (.int .i64 2)),(11,.sc (.int .i64 j))],[],0,0⟩) (fun j=>j<=2) (fun j=>2-j) 0 (by decide) ?_ ?_
 ·exact zS.mk [] rfl rfl (Nat.zero_le _) rfl (by push_cast -dsimp [zb,za,CLe,ze,szN]) (by push_cast -dsimp [zb,za,CLe,ze])
 intro j hj
 obtain rfl | rfl | rfl:j=0∨j=1∨j=2:=by omega
 ·have hn:(((a.length:Int))<0)=False:=eq_false (by omega)
  push_cast -dsimp [szN,hn]
  exact ⟨⟨by omega,by omega⟩,1,by decide,by decide,zS.mk [] rfl rfl (Nat.zero_le _) rfl (by push_cast -dsimp [zb,za,CLe,ze,szN]) (by push_cast -dsimp [zb,za,CLe,ze])⟩
 ·have hn:(((a.length:Int)+(b.length:Int))<0)=False:=eq_false (by omega)
  push_cast -dsimp [szN,hn]
  exact ⟨⟨by omega,by omega⟩,2,by decide,by decide,zS.mk [] rfl rfl (Nat.zero_le _) rfl (by push_cast -dsimp [zb,za,CLe,ze,szN]) (by push_cast -dsimp [zb,za,CLe,ze])⟩
 ·push_cast -dsimp [szN]
  refine Jp [] [] (zea (G:=G) (a.length+b.length) (by omega) (by omega)) rfl (by decide) (by decide) (by simp) (by push_cast -dsimp) (by push_cast -dsimp) (fun r bx' m hp=>?_)
  obtain ⟨rfl,c,B,h1,h2,h3,h4,rfl,rfl⟩:=hp
  have hre:∀ fp fo,C.reL fp fo B=B:=fun fp fo=>zC h4
  push_cast -dsimp [hre]
  refine loop (fun p:Nat×List C=>⟨[(0,.sl 1 [[.sl 5 a],[.sl 5 b]]),(6,.bs 0 0 5 (szN a.length b.length p.1) c),(25,.sl 1 [[.sl 5 a],[.sl 5 b]]),(26,.sc (.int .i64 2)),(27,.sc (.int .i64 p.1))],[p.2],0,0⟩) (fun p=>p.1<=2/\Hy 5 c a b p.1 p.2) (fun p=>2-p.1) (0,B) ⟨Nat.zero_le _,h3,h4,by simp[szN,znR]⟩ ?_ ?_
  ·exact zS.mk [] rfl rfl (Nat.zero_le _) rfl (by push_cast -dsimp [zb,za,CLe,ze,szN]) (by (push_cast -dsimp [zb,za,CLe,ze];exact zQ h4))
  rintro ⟨j,X⟩ ⟨hj,hX⟩
  have hj:j<=2:=hj
  obtain rfl | rfl | rfl:j=0∨j=1∨j=2:=by omega
  ·have hs:=hX.step (r:=a) rfl (by simp[szN]) ka sa (by simp[szN];omega)
   push_cast -dsimp [szN]
   refine XU zfG zhk rfl rfl (by decide) rfl (zG ka) rfl (by rw[hX.len];omega) (Nat.zero_le _) (by omega) (by omega) (fun hc=>?_) (fun hc=>absurd hc (by omega))
   push_cast -dsimp
   have hs:Hy 5 c a b 1 (spl X 0 a.flatten):=by simpa [szN] using hs
   exact ⟨(1,spl X 0 a.flatten),⟨Nat.le_succ 1,hs⟩,by (simp only;omega),zS.mk [] rfl rfl (Nat.zero_le _) rfl (by push_cast -dsimp [zb,za,CLe,ze,szN]) (by (push_cast -dsimp [zb,za,CLe,ze];exact zQ hs.stay))⟩
  ·have hs:=hX.step (r:=b) rfl (by simp[szN]) kb sb (by simp[szN];omega)
   push_cast -dsimp [szN]
   refine XU zfG zhk rfl rfl (by decide) rfl (zG kb) rfl (by rw[hX.len];omega) (by omega) (by omega) (by omega) (fun hc=>?_) (fun hc=>absurd hc (by omega))
   push_cast -dsimp
   have hs:Hy 5 c a b 2 (spl X (a.length*5) b.flatten):=by simpa [szN] using hs
   exact ⟨(2,spl X (a.length*5) b.flatten),⟨Nat.le_refl 2,hs⟩,by (simp only;omega),zS.mk [] rfl rfl (Nat.zero_le _) rfl (by push_cast -dsimp [zb,za,CLe,ze,szN]) (by (push_cast -dsimp [zb,za,CLe,ze];exact zQ hs.stay))⟩
  ·push_cast -dsimp [szN]
   refine ⟨[(0,63,5,a++b,c)],[.inl 0],HZ rfl (by omega) (by rw[List.length_append];omega) h2 hX.len (fun r hr=>(List.mem_append.1 hr).elim (ka r) (kb r)) hX.stay (by rw[List.length_append];exact hX.cells),rfl,rfl,by push_cast -dsimp [zb,za,CLe,ze,List.length_append]⟩
theorem My (a b:List (List C)) (ka:∀ r∈a,r.length=1) (kb:∀ r∈b,r.length=1) (sa:qU a) (sb:qU b) (la:a.length<=90000) (lb:b.length<=90000) (h0:0<b.length) :
  Fun Tryz.prog G 59 [.sl 1 [[.sl 1 a],[.sl 1 b]]] (.own 0 9 1 (a++b)) 1:=by
 refine Fun.ofF (fun i=>if i=1000000+33 then [true,true] else []) Tryz.func59 rfl (zp rfl) (by kernel_rfl) ?_;dsimp only[Tryz.f59]
 push_cast -dsimp
 refine loop (fun j:Nat=>⟨[(0,.sl 1 [[.sl 1 a],[.sl 1 b]]),(2,.sc (.slice none 0 0)),(3,.sc (.int .i64 (szN a.length b.length j:Nat))),(9,.sl 1 [[.sl 1 a],[.sl 1 b]]),(10,.sc (.int .i64 2)),(11,.sc (.int .i64 j))],[],0,0⟩) (fun j=>j<=2) (fun j=>2-j) 0 (by decide) ?_ ?_
 ·exact zS.mk [] rfl rfl (Nat.zero_le _) rfl (by push_cast -dsimp [zb,za,CLe,ze,szN]) (by push_cast -dsimp [zb,za,CLe,ze])
 intro j hj
 obtain rfl | rfl | rfl:j=0∨j=1∨j=2:=by omega
 ·have hn:(((a.length:Int))<0)=False:=eq_false (by omega)
  push_cast -dsimp [szN,hn]
  exact ⟨⟨by omega,by omega⟩,1,by decide,by decide,zS.mk [] rfl rfl (Nat.zero_le _) rfl (by push_cast -dsimp [zb,za,CLe,ze,szN]) (by push_cast -dsimp [zb,za,CLe,ze])⟩
 ·have hn:(((a.length:Int)+(b.length:Int))<0)=False:=eq_false (by omega)
  push_cast -dsimp [szN,hn]
  exact ⟨⟨by omega,by omega⟩,2,by decide,by decide,zS.mk [] rfl rfl (Nat.zero_le _) rfl (by push_cast -dsimp [zb,za,CLe,ze,szN]) (by push_cast -dsimp [zb,za,CLe,ze])⟩
 ·push_cast -dsimp [szN]
  refine Jp [] [] (zcr (G:=G) (a.length+b.length) (by omega) (by omega)) rfl (by decide) (by decide) (by simp) (by push_cast -dsimp) (by push_cast -dsimp) (fun r bx' m hp=>?_)
  obtain ⟨rfl,c,B,h1,h2,h3,h4,rfl,rfl⟩:=hp
  have hre:∀ fp fo,C.reL fp fo B=B:=fun fp fo=>zC h4
  push_cast -dsimp [hre]
  refine loop (fun p:Nat×List C=>⟨[(0,.sl 1 [[.sl 1 a],[.sl 1 b]]),(6,.bs 0 0 1 (szN a.length b.length p.1) c),(25,.sl 1 [[.sl 1 a],[.sl 1 b]]),(26,.sc (.int .i64 2)),(27,.sc (.int .i64 p.1))],[p.2],0,0⟩) (fun p=>p.1<=2/\Hy 1 c a b p.1 p.2) (fun p=>2-p.1) (0,B) ⟨Nat.zero_le _,h3,h4,by simp[szN,znR]⟩ ?_ ?_
  ·exact zS.mk [] rfl rfl (Nat.zero_le _) rfl (by push_cast -dsimp [zb,za,CLe,ze,szN]) (by (push_cast -dsimp [zb,za,CLe,ze];exact zQ h4))
  rintro ⟨j,X⟩ ⟨hj,hX⟩
  have hj:j<=2:=hj
  obtain rfl | rfl | rfl:j=0∨j=1∨j=2:=by omega
  ·have hs:=hX.step (r:=a) rfl (by simp[szN]) ka sa (by simp[szN];omega)
   push_cast -dsimp [szN]
   refine XU UQ ze4 rfl rfl (by decide) rfl (zG ka) rfl (by rw[hX.len];omega) (Nat.zero_le _) (by omega) (by omega) (fun hc=>?_) (fun hc=>absurd hc (by omega))
   push_cast -dsimp
   have hs:Hy 1 c a b 1 (spl X 0 a.flatten):=by simpa [szN] using hs
   exact ⟨(1,spl X 0 a.flatten),⟨Nat.le_succ 1,hs⟩,by (simp only;omega),zS.mk [] rfl rfl (Nat.zero_le _) rfl (by push_cast -dsimp [zb,za,CLe,ze,szN]) (by (push_cast -dsimp [zb,za,CLe,ze];exact zQ hs.stay))⟩
  ·have hs:=hX.step (r:=b) rfl (by simp[szN]) kb sb (by simp[szN];omega)
   push_cast -dsimp [szN]
   refine XU UQ ze4 rfl rfl (by decide) rfl (zG kb) rfl (by rw[hX.len];omega) (by omega) (by omega) (by omega) (fun hc=>?_) (fun hc=>absurd hc (by omega))
   push_cast -dsimp
   have hs:Hy 1 c a b 2 (spl X (a.length) b.flatten):=by simpa [szN] using hs
   exact ⟨(2,spl X (a.length) b.flatten),⟨Nat.le_refl 2,hs⟩,by (simp only;omega),zS.mk [] rfl rfl (Nat.zero_le _) rfl (by push_cast -dsimp [zb,za,CLe,ze,szN]) (by (push_cast -dsimp [zb,za,CLe,ze];exact zQ hs.stay))⟩
  ·push_cast -dsimp [szN]
   refine ⟨[(0,9,1,a++b,c)],[.inl 0],HZ rfl (by omega) (by rw[List.length_append];omega) h2 hX.len (fun r hr=>(List.mem_append.1 hr).elim (ka r) (kb r)) hX.stay (by rw[List.length_append];exact hX.cells),rfl,rfl,by push_cast -dsimp [zb,za,CLe,ze,List.length_append]⟩
end
end
end Go.Proofs.YtiblepfehggicaaGreatDoor.Vcg
section
namespace Go.Proofs.YtiblepfehggicaaGreatDoor.Kit
open Go.RowKit
theorem uq {a b:ByteArray} (h:a=b):Ending.returned (.string a) = .returned (.string b):=by rw[h]
def toL (s:ByteArray):List UInt8:=s.data.toList
def ofL (l:List UInt8):ByteArray:=⟨l.toArray⟩
@[simp] theorem zcN (l:List UInt8):toL (ofL l)=l:=by simp[toL,ofL]
@[simp] theorem zox (s:ByteArray):ofL (toL s)=s:=by cases s;simp[toL,ofL]
theorem Ho (s:ByteArray):(toL s).length=s.size:=Array.length_toList
theorem k6 (l:List UInt8):(ofL l).size=l.length:=by rw[←Ho,zcN]
def join (sep:ByteArray) (xs:List ByteArray):ByteArray:=⟨(Lib.join (xs.map (·.data.toList)) sep.data.toList).toArray⟩
theorem join_one (sep x:ByteArray):join sep [x]=x:=by
 cases x;simp[join,Lib.join_one]
def zjt (w:World) (v:Value) (xs:List ByteArray):Prop:=
 ∃ a cap,v = .slice a xs.length cap/\xs.length<=cap/\(cap:Int)<=9223372036854775807 /\
  (xs = []∨∃ b o,a=some ⟨b,o,none⟩/\b<w.heap.size/\∀ j,j<xs.length->w.cell? ⟨b,o+j,none⟩=some (.string (xs.getD j ⟨#[]⟩)))
theorem zjt.below {w w':World} {v:Value} {xs:List ByteArray} {B:Nat} (h:zjt w v xs) (hb:Below B w w') (hB:w.heap.size<=B):zjt w' v xs:=by
 obtain ⟨a,cap,e,h1,h2,h3⟩:=h
 refine ⟨a,cap,e,h1,h2,?_⟩
 rcases h3 with h3 | ⟨b,o,e1,e2,e3⟩
 ·exact .inl h3
 ·exact .inr ⟨b,o,e1,Nat.lt_of_lt_of_le e2 hb.size,fun j hj=>by rw[hb.cell (p:=⟨b,o+j,none⟩) (Nat.lt_of_lt_of_le e2 hB)];exact e3 j hj⟩
theorem zjt.new (w:World) (xs:List ByteArray) (cs:Array Value) (T:TypeId) (n:Nat) (hcs:cs=(xs.map Value.string).toArray) (hn:n=xs.length) (hm:n<=9223372036854775807) (fr:Nat×Nat) :
  zjt (w.alloc (.cells cs T fr)) (.slice (some ⟨w.heap.size,0,none⟩) n n) xs:=by
 subst hcs hn
 refine ⟨_,_,rfl,Nat.le_refl _,by omega,?_⟩
 refine .inr ⟨_,_,rfl,by rw[World.size_alloc];omega,fun j hj=>?_⟩
 have h1:(w.alloc (.cells (xs.map Value.string).toArray T fr)).heap[w.heap.size]?=some (.cells (xs.map Value.string).toArray T fr):=by
  show (w.heap.push _)[w.heap.size]?=_
  rw[Array.getElem?_push,if_pos rfl]
 simp only[World.cell?,h1]
 show ((xs.map Value.string).toArray)[0+j]?=_
 rw[Nat.zero_add,List.getElem?_toArray,List.getElem?_map,List.getElem?_eq_getElem hj,List.getD_eq_getElem?_getD,List.getElem?_eq_getElem hj];rfl
theorem zjt.nil (w:World) (a:Option Addr) (cap:Nat) (hm:cap<=9223372036854775807):zjt w (.slice a 0 cap) []:=⟨a,cap,rfl,Nat.zero_le _,by omega,.inl rfl⟩
end Go.Proofs.YtiblepfehggicaaGreatDoor.Kit
end
section
namespace Go.Proofs.YtiblepfehggicaaGreatDoor.Kit
open Go.RowKit
def byteCells (l:List UInt8):Array Value:=(l.map fun c=>Value.int .u8 (c.toNat:Int)).toArray
theorem zeD (w:World) (l:List UInt8) (T:TypeId) (fr:Nat×Nat) (n:Nat) (hn:n=w.heap.size):Lib.Bytes (w.alloc (.cells (byteCells l) T fr)) n 0 (ofL l):=by
 intro i h
 subst hn
 have h1:(w.alloc (.cells (byteCells l) T fr)).heap[w.heap.size]?=some (.cells (byteCells l) T fr):=by
  show (w.heap.push _)[w.heap.size]?=_
  rw[Array.getElem?_push,if_pos rfl]
 simp only[World.cell?,h1]
 show (byteCells l)[0+i]?=_
 have h2:i<l.length:=by rw[k6]at h;exact h
 rw[Nat.zero_add,byteCells,List.getElem?_toArray,List.getElem?_map,List.getElem?_eq_getElem h2]
 rfl
theorem zhJ {P:Program} (w:World) (l:List UInt8) (src e dst:TypeId) (hs:P.underlying src=some (.slice e)) (he:P.underlying e=some (.int .u8)) (hd:P.underlying dst=some .string) (cs:Array Value) (hcs:cs=byteCells l) (fr:Nat×Nat) (m cap n:Nat) (hm:m=w.heap.size) (hn:n=l.length) :
  (convert src dst (.slice (some ⟨m,0,none⟩) n cap)).run P (w.alloc (.cells cs e fr)) = .ok (.string (ofL l)) (w.alloc (.cells cs e fr)):=by
 subst hcs hm hn
 have:=Lib.run_convert_whole (P:=P) (w.alloc (.cells (byteCells l) e fr)) src e dst hs he hd w.heap.size 0 (ofL l) (zeD w l e fr _ rfl) cap
 rw[k6]at this
 exact this
end Go.Proofs.YtiblepfehggicaaGreatDoor.Kit
end
section
namespace Go.Proofs.YtiblepfehggicaaGreatDoor
open Go.RowKit
namespace QuoteWalk
open Kit QuotePlain
theorem zeB {c:UInt8} (h:good c=false):¬(32:Int)<=(c.toNat:Int)∨((32:Int)<=(c.toNat:Int)/\¬(c.toNat:Int)<=126)∨((32:Int)<=(c.toNat:Int)/\(c.toNat:Int)<=126/\((c.toNat:Int) != 34)=false) ∨
  ((32:Int)<=(c.toNat:Int)/\(c.toNat:Int)<=126/\((c.toNat:Int) != 34)=true/\((c.toNat:Int) != 92)=false):=by
 simp only[good,decide_eq_false_iff_not]at h
 simp only[bne_iff_ne,ne_eq,bne_eq_false_iff_eq]
 omega
theorem zaV {c:UInt8} (h:good c=true):(32:Int)<=(c.toNat:Int)/\(c.toNat:Int)<=126/\((c.toNat:Int) != 34)=true/\((c.toNat:Int) != 92)=true:=by
 simp only[good,decide_eq_true_eq]at h
 refine ⟨by omega,by omega,?_,?_⟩<;>(simp only[bne_iff_ne,ne_eq];omega)
theorem xv (c:UInt8) (w:World) :
  Calls Tryz.prog 192 #[.int .u8 c.toNat] w fun e w'=>e = .returned (.bool (good c))/\w=w':=by
 have hc:=c.toNat_lt
 cases hg:good c with
 | true =>
  obtain ⟨g1,g2,g3,g4⟩:=zaV hg
  clear hg
  go_enter Tryz.func192,Tryz.ntmps192
  go_wp2
  go_ret
  exact ⟨rfl,rfl⟩
 | false =>
  rcases zeB hg with h | ⟨h0,h⟩ | ⟨h0,h1,h2⟩ | ⟨h0,h1,h2,h3⟩
  all_goals clear hg
  ·go_enter Tryz.func192,Tryz.ntmps192
   go_wp2
   go_ret
   exact ⟨rfl,rfl⟩
  ·go_enter Tryz.func192,Tryz.ntmps192
   go_wp2
   go_ret
   exact ⟨rfl,rfl⟩
  ·go_enter Tryz.func192,Tryz.ntmps192
   go_wp2
   go_ret
   exact ⟨rfl,rfl⟩
  ·go_enter Tryz.func192,Tryz.ntmps192
   go_wp2
   go_ret
   exact ⟨rfl,rfl⟩
theorem zpm (n:Nat) (h:n<16) (w:World):(Instr.index 9 (.string ⟨#[48,49,50,51,52,53,54,55,56,57,97,98,99,100,101,102]⟩) (.int .u8 (n:Int))).run Tryz.prog w = .ok (.int .u8 ((uT n).toNat:Int)) w:=by
 rcases (by omega:n=0∨n=1∨n=2∨n=3∨n=4∨n=5∨n=6∨n=7∨n=8∨n=9∨n=10∨n=11∨n=12∨n=13∨n=14∨n=15) with rfl | rfl | rfl | rfl | rfl | rfl | rfl | rfl | rfl | rfl | rfl | rfl | rfl | rfl | rfl | rfl
 all_goals kernel_rfl
theorem zmj (c:UInt8) (w:World):(Instr.index 9 (.string ⟨#[48,49,50,51,52,53,54,55,56,57,97,98,99,100,101,102]⟩) (.int .u8 ((c.toNat:Int) / 16))).run Tryz.prog w = .ok (.int .u8 ((uT (c.toNat / 16)).toNat:Int)) w:=
 zpm (c.toNat / 16) (by have:=c.toNat_lt;omega) w
theorem zmo (c:UInt8) (w:World):(Instr.index 9 (.string ⟨#[48,49,50,51,52,53,54,55,56,57,97,98,99,100,101,102]⟩) (.int .u8 ((c.toNat:Int) % 16))).run Tryz.prog w = .ok (.int .u8 ((uT (c.toNat % 16)).toNat:Int)) w:=
 zpm (c.toNat % 16) (by omega) w
end QuoteWalk
end Go.Proofs.YtiblepfehggicaaGreatDoor
end
section
namespace Go.Proofs
open Go.Shelf
def Tryz.zlays166_ren:Go.Shelf.Ren:=⟨fun | 166=>118 | 240=>159 | 276=>194 | n=>n,fun | 0=>0 | 3=>3 | 4=>4 | 9=>9 | 20=>20 | 37=>157 | 70=>156 | 72=>159 | 75=>162 | 164=>233 | 80=>165 | 5=>5 | n=>n,fun | n=>n⟩
theorem Tryz.zlays166:Go.Proofs.Lays.n166 Tryz.prog Tryz.zlays166_ren:={
 mixed:=by kernel_rfl
 f166:=Tryz.func118.trans (congrArg some (by kernel_rfl))
 f240:=Tryz.func159.trans (congrArg some (by kernel_rfl))
 f276:=Tryz.func194.trans (congrArg some (by kernel_rfl))
 t0:=Tryz.underlying0
 a0:=Tryz.isAgg0
 z0:=Tryz.sizeOf0
 v0:=Tryz.zeroValue0
 t3:=Tryz.underlying3
 a3:=Tryz.isAgg3
 z3:=Tryz.sizeOf3
 v3:=Tryz.zeroValue3
 t4:=Tryz.underlying4
 a4:=Tryz.isAgg4
 z4:=Tryz.sizeOf4
 v4:=Tryz.zeroValue4
 t9:=Tryz.underlying9
 a9:=Tryz.isAgg9
 z9:=Tryz.sizeOf9
 v9:=Tryz.zeroValue9
 t20:=Tryz.underlying20
 a20:=Tryz.isAgg20
 z20:=Tryz.sizeOf20
 v20:=Tryz.zeroValue20
 t37:=Tryz.underlying157
 a37:=Tryz.isAgg157
 z37:=Tryz.sizeOf157
 v37:=Tryz.zeroValue157
 t70:=Tryz.underlying156
 a70:=Tryz.isAgg156
 z70:=Tryz.sizeOf156
 v70:=Tryz.zeroValue156
 t72:=Tryz.underlying159
 a72:=Tryz.isAgg159
 z72:=Tryz.sizeOf159
 v72:=Tryz.zeroValue159
 t75:=Tryz.underlying162
 a75:=Tryz.isAgg162
 z75:=Tryz.sizeOf162
 v75:=Tryz.zeroValue162
 t164:=Tryz.underlying233
 a164:=Tryz.isAgg233
 z164:=Tryz.sizeOf233
 v164:=Tryz.zeroValue233 }
theorem Tryz.zBuilder_Extra_166:Builder.Extra Tryz.prog Tryz.zlays166_ren:={
 sizeBuilder:=by kernel_rfl
 liesBuilder:=by kernel_rfl
 t5:=Tryz.underlying5
 a5:=Tryz.isAgg5
 z5:=Tryz.sizeOf5
 v5:=Tryz.zeroValue5
 infoByte:=by kernel_rfl
 cellsByte:=by kernel_rfl
 sizeByte:=by kernel_rfl
 neB5:=by decide }
def Tryz.zlays167_ren:Go.Shelf.Ren:=⟨fun | 167=>191 | 240=>159 | 276=>194 | n=>n,fun | 0=>0 | 4=>4 | 5=>5 | 9=>9 | 20=>20 | 37=>157 | 70=>156 | 72=>159 | 75=>162 | 164=>233 | 80=>165 | n=>n,fun | n=>n⟩
theorem Tryz.zlays167:Go.Proofs.Lays.n167 Tryz.prog Tryz.zlays167_ren:={
 mixed:=by kernel_rfl
 f167:=Tryz.func191.trans (congrArg some (by kernel_rfl))
 f240:=Tryz.func159.trans (congrArg some (by kernel_rfl))
 f276:=Tryz.func194.trans (congrArg some (by kernel_rfl))
 t0:=Tryz.underlying0
 a0:=Tryz.isAgg0
 z0:=Tryz.sizeOf0
 v0:=Tryz.zeroValue0
 t4:=Tryz.underlying4
 a4:=Tryz.isAgg4
 z4:=Tryz.sizeOf4
 v4:=Tryz.zeroValue4
 t5:=Tryz.underlying5
 a5:=Tryz.isAgg5
 z5:=Tryz.sizeOf5
 v5:=Tryz.zeroValue5
 t9:=Tryz.underlying9
 a9:=Tryz.isAgg9
 z9:=Tryz.sizeOf9
 v9:=Tryz.zeroValue9
 t20:=Tryz.underlying20
 a20:=Tryz.isAgg20
 z20:=Tryz.sizeOf20
 v20:=Tryz.zeroValue20
 t37:=Tryz.underlying157
 a37:=Tryz.isAgg157
 z37:=Tryz.sizeOf157
 v37:=Tryz.zeroValue157
 t70:=Tryz.underlying156
 a70:=Tryz.isAgg156
 z70:=Tryz.sizeOf156
 v70:=Tryz.zeroValue156
 t72:=Tryz.underlying159
 a72:=Tryz.isAgg159
 z72:=Tryz.sizeOf159
 v72:=Tryz.zeroValue159
 t75:=Tryz.underlying162
 a75:=Tryz.isAgg162
 z75:=Tryz.sizeOf162
 v75:=Tryz.zeroValue162
 t164:=Tryz.underlying233
 a164:=Tryz.isAgg233
 z164:=Tryz.sizeOf233
 v164:=Tryz.zeroValue233 }
theorem Tryz.zBuilder_Extra_167:Builder.Extra Tryz.prog Tryz.zlays167_ren:={
 sizeBuilder:=by kernel_rfl
 liesBuilder:=by kernel_rfl
 t5:=Tryz.underlying5
 a5:=Tryz.isAgg5
 z5:=Tryz.sizeOf5
 v5:=Tryz.zeroValue5
 infoByte:=by kernel_rfl
 cellsByte:=by kernel_rfl
 sizeByte:=by kernel_rfl
 neB5:=by decide }
open Go.RowKit in
theorem Tryz.zBuilder_WriteByte (B b:Nat) (bs:List Value) (c:Int) (w:World) (h:Lib.IsBuilder 159 5 B b bs w) (hlen:bs.length+1<=140737488355328) (hBw:B<=w.heap.size) :
  Calls Tryz.prog 191 #[.pointer (some ⟨b,0,none⟩),.int .u8 c] w fun e w'=>e = .returned .nilIface/\(Lib.BuilderAt 159 5 B b (.pointer (some ⟨b,0,none⟩)) (bs++[.int .u8 c]) w'/\Below B w w'):=Any.Builder_WriteByte Tryz.zlays167 Tryz.zBuilder_Extra_167 B b bs c w h hlen hBw
open Go.RowKit in
theorem Tryz.zBuilder_WriteString (B b:Nat) (bs:List Value) (s:ByteArray) (w:World) (h:Lib.IsBuilder 159 5 B b bs w) (hlen:bs.length+s.size<=140737488355328) (hBw:B<=w.heap.size) :
  Calls Tryz.prog 118 #[.pointer (some ⟨b,0,none⟩),.string s] w fun e w'=>e = .returned (.tuple #[.int .i64 s.size,.nilIface])/\(Lib.BuilderAt 159 5 B b (.pointer (some ⟨b,0,none⟩)) (bs++Lib.strCells s) w'/\Below B w w'):=Any.Builder_WriteString Tryz.zlays166 Tryz.zBuilder_Extra_166 B b bs s w h hlen hBw
end Go.Proofs
end
section
namespace Go.Proofs.YtiblepfehggicaaGreatDoor
open Go.RowKit
namespace QuoteWalk
open Kit QuotePlain
def pre (s:ByteArray) (k:Nat):Bs:=34 :: mid ((toL s).take k)
theorem zfD (s:ByteArray):pre s 0 = [34]:=by simp[pre,mid]
theorem zgO (s:ByteArray) (k:Nat) (h:k<s.size) {c:UInt8} (hc:s[k]=c):pre s (k+1)=pre s k++qb c:=by
 have h':k<(toL s).length:=by rw[Ho];exact h
 have:(toL s)[k]=c:=hc
 rw[pre,pre,List.take_succ_eq_append_getElem h',this,mid,mid,List.flatMap_append]
 simp
theorem zju (s:ByteArray) (k:Nat) (h:s.size<=k):pre s k++[34]=ju (toL s):=by
 rw[pre,List.take_of_length_le (by rw[Ho];exact h)];rfl
theorem zlT (c:UInt8):(qb c).length<=4:=by unfold qb;split<;>simp
theorem mid_len (l:Bs):(mid l).length<=4*l.length:=by
 induction l with
 | nil=>simp[mid]
 | cons c l ih =>
  have:=zlT c
  simp only[mid,List.flatMap_cons,List.length_append,List.length_cons]at ih ⊢
  omega
theorem zkZ (s:ByteArray) (k:Nat):(pre s k).length<=1+4*k:=by
 have h1:=mid_len ((toL s).take k)
 have h2:((toL s).take k).length<=k:=List.length_take_le _ _
 simp only[pre,List.length_cons];omega
def Bld (B:Nat) (l:Bs) (w:World):Prop:=Lib.BuilderAt 159 5 B B (.pointer (some ⟨B,0,none⟩)) (Lib.byteCells l) w
theorem Bld.alloc {B:Nat} {l:Bs} {w:World} (h:Bld B l w) (o:Obj):Bld B l (w.alloc o):=by
 obtain ⟨h1,v,h2,h3,h4⟩:=h
 refine ⟨h1,v,?_,h3.alloc o,h4⟩
 rw[Lib.alloc_old _ _ _ (Array.getElem?_eq_some_iff.1 h2).1];exact h2
theorem Bld.drew {B:Nat} {l:Bs} {w:World} (h:Bld B l w):Bld B l w.drew:=h
theorem NW (B:Nat) (l:Bs) (c:UInt8) (w:World) (h:Bld B l w) (hl:l.length<140737488355328) (hB:B<=w.heap.size) :
  Calls Tryz.prog 191 #[.pointer (some ⟨B,0,none⟩),.int .u8 (c.toNat:Int)] w fun e w'=>e = .returned .nilIface/\Bld B (l++[c]) w'/\Below B w w':=by
 refine (Tryz.zBuilder_WriteByte B B (Lib.byteCells l) c.toNat w (.inr h) (by rw[Lib.byteCells_length];omega) hB).mono ?_
 rintro e w' ⟨h1,h2,h3⟩
 exact ⟨h1,by rw[Bld,Lib.byteCells_append];exact h2,h3⟩
theorem uc (w:World) (c:UInt8) :
  Calls Tryz.prog 191 #[.pointer (some ⟨w.heap.size,0,none⟩),.int .u8 (c.toNat:Int)] (w.alloc (.cells #[.pointer none,.slice none 0 0] 159 (0,0))) fun e w'=>e = .returned .nilIface/\Bld w.heap.size [c] w'/\Below w.heap.size w w':=by
 refine (Tryz.zBuilder_WriteByte w.heap.size w.heap.size [] c.toNat _ (Lib.fresh_isBuilder _ _ w) (by decide) (by simp)).mono ?_
 rintro e w' ⟨h1,h2,h3⟩
 exact ⟨h1,h2,((Below.refl _ _).alloc (Nat.le_refl _) _).trans h3⟩
theorem Mg (B:Nat) (l:Bs) (x:ByteArray) (w:World) (h:Bld B l w) (hl:l.length+x.size<=140737488355328) (hB:B<=w.heap.size) :
  Calls Tryz.prog 118 #[.pointer (some ⟨B,0,none⟩),.string x] w fun e w'=>e = .returned (.tuple #[.int .i64 x.size,.nilIface])/\Bld B (l++toL x) w'/\Below B w w':=by
 refine (Tryz.zBuilder_WriteString B B (Lib.byteCells l) x w (.inr h) (by rw[Lib.byteCells_length];omega) hB).mono ?_
 rintro e w' ⟨h1,h2,h3⟩
 exact ⟨h1,by rw[Bld,Lib.byteCells_append];exact h2,h3⟩
theorem zcp (B:Nat) (l:Bs) (w:World) (h:Bld B l w) (hB:B<=w.heap.size) :
  Calls Tryz.prog 119 #[.pointer (some ⟨B,0,none⟩)] w fun e w'=>e = .returned (.string (ofL l))/\Below B w w':=
 Tryz.Builder_String_any B B l w (.inr h) hB
theorem znQ (c:UInt8):bits BinOp.and IntKind.u8 (c.toNat:Int) 15=(c.toNat:Int) % 16:=by
 have:=zdO (p:=fun c=>decide (bits BinOp.and IntKind.u8 (c.toNat:Int) 15=(c.toNat:Int) % 16)) (by decide +kernel) c
 exact of_decide_eq_true this
theorem quote_walk (s:ByteArray) (w:World) (hs:s.size<=1099511627776) :
  Calls Tryz.prog 154 #[.string s] w fun e w'=>e = .returned (.string (ofL (ju (toL s))))/\Below w.heap.size w w':=by
 go_enter Tryz.func154,Tryz.ntmps154
 go_wp2_with fail
 refine (uc w 34).mono ?_
 rintro e w1 ⟨rfl,hI1,hB1⟩
 go_wp2_with fail
 go_loopw [9] (fun i wr=>∃ k:Nat,k<=s.size/\i = .int .i64 k/\Bld w.heap.size (pre s k) wr/\Below w.heap.size w wr) (fun i _=>s.size-(intOf i).toNat)
 case atStart=>exact ⟨0,by omega,rfl,by rw[zfD];exact hI1,hB1⟩
 case round =>
  obtain ⟨k,hk,rfl,hI,hB⟩:=hrel
  clear hI1 hB1
  have hpl:=zkZ s k
  by_cases hlt:k<s.size
  ·obtain ⟨c,hc⟩:∃ c,s[k]=c:=⟨_,rfl⟩
   have hsn:=Lib.hid (zgO s k hlt hc)
   go_wp2_with fail
   refine (xv c _).mono ?_
   rintro e w' ⟨rfl,rfl⟩
   cases hg:good c with
   | true =>
    have hq:=Lib.hid (show qb c = [c] by rw[qb,if_pos hg])
    clear hg
    go_wp2_with fail
    refine (NW w.heap.size (pre s k) c _ hI (by omega) hB.size).mono ?_
    rintro e w2 ⟨rfl,hI2,hb2⟩
    go_wp2
    go_roundw
    case rel=>exact ⟨k+1,by omega,by go_num,by rw[hsn.out,hq.out];exact hI2,hB.trans hb2⟩
    case measure=>simp[intOf];omega
   | false =>
    have hq:=Lib.hid (show qb c = [92,120,uT (c.toNat / 16),uT (c.toNat % 16)] by rw[qb,hg];rfl)
    clear hg
    have x1:=zmj c
    have x2:=zmo c
    have x3:=znQ c
    have hcv:=fun w2:World=>zhJ (P:=Tryz.prog) w2 [92,120,uT (c.toNat / 16),uT (c.toNat % 16)] 157 5 9 Tryz.underlying157 Tryz.underlying5 Tryz.underlying9 #[.int .u8 92,.int .u8 120,.int .u8 (uT (c.toNat / 16)).toNat,.int .u8 (uT (c.toNat % 16)).toNat] rfl (0,0) w2.heap.size 4 4 rfl rfl
    go_wp2_with fail
    go_still_tail 6,(by kernel_rfl)
    change wpList _ _ _ _ _ wr.drew
    obtain ⟨w2,hw2,hI2,hsz⟩:∃ w2:World,Below w.heap.size w w2/\Bld w.heap.size (pre s k) w2/\w2=wr.drew:=⟨_,hB.drew,hI.drew,rfl⟩
    rw[←hsz]
    clear hsz hI hB
    go_wp2_with fail
    refine (Mg w.heap.size (pre s k) (ofL [92,120,uT (c.toNat / 16),uT (c.toNat % 16)]) _ (hI2.alloc _) (by rw[k6];show _+4<=_;omega) (by have:=hw2.size;simp;omega)).mono ?_
    rintro e w3 ⟨rfl,hI3,hb3⟩
    rw[zcN]at hI3
    have hB3:=(hw2.alloc hw2.size _).trans hb3
    clear hb3 hcv x1 x2 x3 hI2
    go_wp2
    go_roundw
    case rel=>exact ⟨k+1,by omega,by go_num,by rw[hsn.out,hq.out];exact hI3,hB3⟩
    case measure=>simp[intOf];omega
  ·have hfin:=Lib.hid (zju s k (by omega))
   go_wp2_with fail
   refine (NW w.heap.size (pre s k) 34 _ hI (by omega) hB.size).mono ?_
   rintro e w2 ⟨rfl,hI2,hb2⟩
   go_wp2_with fail
   refine (zcp w.heap.size _ _ hI2 (hB.trans hb2).size).mono ?_
   rintro e w3 ⟨rfl,hb3⟩
   go_wp2
   go_ret
   exact ⟨uq (by rw[hfin.out]),(hB.trans hb2).trans hb3⟩
end QuoteWalk
end Go.Proofs.YtiblepfehggicaaGreatDoor
end
namespace Go.Proofs.YtiblepfehggicaaGreatDoor.Vcg
section
open Go.RowKit
def phr:List (List UInt8):=[[],[99,97,110,110,111,116,32,99,114,101,97,116,101,32,100,105,114,101,99,116,111,114,121,32,65,58,32,69],[99,97,110,110,111,116,32,114,101,109,111,118,101,32,65,58,32,69],[114,101,102,117,115,105,110,103,32,116,111,32,114,101,109,111,118,101,32,34,46,34,32,111,114,32,34,46,46,34,32,100,105,114,101,99,116,111,114,121,58,32,115,107,105,112,112,105,110,103,32,65],[105,116,32,105,115,32,100,97,110,103,101,114,111,117,115,32,116,111,32,111,112,101,114,97,116,101,32,114,101,99,117,114,115,105,118,101,108,121,32,111,110,32,65],[102,97,105,108,101,100,32,116,111,32,97,99,99,101,115,115,32,65,58,32,69],[65,58,32,104,97,114,100,32,108,105,110,107,32,110,111,116,32,97,108,108,111,119,101,100,32,102,111,114,32,100,105,114,101,99,116,111,114,121],[102,97,105,108,101,100,32,116,111,32,99,114,101,97,116,101,32,104,97,114,100,32,108,105,110,107,32,66,58,32,69],[102,97,105,108,101,100,32,116,111,32,99,114,101,97,116,101,32,115,121,109,98,111,108,105,99,32,108,105,110,107,32,66,58,32,69],[65,32,97,110,100,32,66,32,97,114,101,32,116,104,101,32,115,97,109,101,32,102,105,108,101],[116,97,114,103,101,116,32,65,32,105,115,32,110,111,116,32,97,32,100,105,114,101,99,116,111,114,121],[99,97,110,110,111,116,32,115,116,97,116,32,65,58,32,69],[99,97,110,110,111,116,32,111,118,101,114,119,114,105,116,101,32,110,111,110,45,100,105,114,101,99,116,111,114,121,32,66,32,119,105,116,104,32,100,105,114,101,99,116,111,114,121,32,65],[99,97,110,110,111,116,32,111,118,101,114,119,114,105,116,101,32,100,105,114,101,99,116,111,114,121,32,66,32,119,105,116,104,32,110,111,110,45,100,105,114,101,99,116,111,114,121,32,65],[99,97,110,110,111,116,32,109,111,118,101,32,65,32,116,111,32,97,32,115,117,98,100,105,114,101,99,116,111,114,121,32,111,102,32,105,116,115,101,108,102,44,32,66],[99,97,110,110,111,116,32,109,111,118,101,32,65,32,116,111,32,66,58,32,69],[45,114,32,110,111,116,32,115,112,101,99,105,102,105,101,100,59,32,111,109,105,116,116,105,110,103,32,100,105,114,101,99,116,111,114,121,32,65],[99,97,110,110,111,116,32,99,114,101,97,116,101,32,114,101,103,117,108,97,114,32,102,105,108,101,32,66,58,32,69],[99,97,110,110,111,116,32,99,114,101,97,116,101,32,115,121,109,98,111,108,105,99,32,108,105,110,107,32,66,58,32,69],[99,97,110,110,111,116,32,99,111,112,121,32,97,32,100,105,114,101,99,116,111,114,121,44,32,65,44,32,105,110,116,111,32,105,116,115,101,108,102,44,32,66],[110,111,116,32,119,114,105,116,105,110,103,32,116,104,114,111,117,103,104,32,100,97,110,103,108,105,110,103,32,115,121,109,108,105,110,107,32,66],[101,114,114,111,114,32,119,114,105,116,105,110,103,32,66,58,32,69],[99,97,110,110,111,116,32,99,114,101,97,116,101,32,100,105,114,101,99,116,111,114,121,32,66,58,32,69]]
def zpl:List (List UInt8):=[[83,117,99,99,101,115,115],[78,111,32,115,117,99,104,32,102,105,108,101,32,111,114,32,100,105,114,101,99,116,111,114,121],[70,105,108,101,32,101,120,105,115,116,115],[78,111,116,32,97,32,100,105,114,101,99,116,111,114,121],[73,115,32,97,32,100,105,114,101,99,116,111,114,121],[68,105,114,101,99,116,111,114,121,32,110,111,116,32,101,109,112,116,121],[84,111,111,32,109,97,110,121,32,108,101,118,101,108,115,32,111,102,32,115,121,109,98,111,108,105,99,32,108,105,110,107,115],[70,105,108,101,32,110,97,109,101,32,116,111,111,32,108,111,110,103],[78,111,32,115,112,97,99,101,32,108,101,102,116,32,111,110,32,100,101,118,105,99,101],[73,110,118,97,108,105,100,32,97,114,103,117,109,101,110,116],[68,101,118,105,99,101,32,111,114,32,114,101,115,111,117,114,99,101,32,98,117,115,121],[79,112,101,114,97,116,105,111,110,32,110,111,116,32,112,101,114,109,105,116,116,101,100],[77,97,108,102,111,114,109,101,100,32,116,101,120,116],[78,111,116,32,105,110,32,116,104,101,32,115,116,97,115,104]]
def zmy:List Value:=[.string ⟨#[]⟩,.string ⟨#[]⟩,.int .i64 0,.string ⟨#[109,107,100,105,114]⟩,.string ⟨#[112]⟩,.int .i64 1,.string ⟨#[114,109]⟩,.string ⟨#[82,100,102,114]⟩,.int .i64 1,.string ⟨#[108,110]⟩,.string ⟨#[84,102,110,115]⟩,.int .i64 1,.string ⟨#[109,118]⟩,.string ⟨#[84,102,110]⟩,.int .i64 2,.string ⟨#[99,112]⟩,.string ⟨#[80,82,84,102,110,114]⟩,.int .i64 2]
def G2:zk:=fun g=>if g=2 then some (phr.map C.str) else if g=1 then some (zmy.map zB) else if g=3 then some (zpl.map C.str) else none
theorem zlH:G2 2=some [.str [],.str [99,97,110,110,111,116,32,99,114,101,97,116,101,32,100,105,114,101,99,116,111,114,121,32,65,58,32,69],.str [99,97,110,110,111,116,32,114,101,109,111,118,101,32,65,58,32,69],.str [114,101,102,117,115,105,110,103,32,116,111,32,114,101,109,111,118,101,32,34,46,34,32,111,114,32,34,46,46,34,32,100,105,114,101,99,116,111,114,121,58,32,115,107,105,112,112,105,110,103,32,65],.str [105,116,32,105,115,32,100,97,110,103,101,114,111,117,115,32,116,111,32,111,112,101,114,97,116,101,32,114,101,99,117,114,115,105,118,101,108,121,32,111,110,32,65],.str [102,97,105,108,101,100,32,116,111,32,97,99,99,101,115,115,32,65,58,32,69],.str [65,58,32,104,97,114,100,32,108,105,110,107,32,110,111,116,32,97,108,108,111,119,101,100,32,102,111,114,32,100,105,114,101,99,116,111,114,121],.str [102,97,105,108,101,100,32,116,111,32,99,114,101,97,116,101,32,104,97,114,100,32,108,105,110,107,32,66,58,32,69],.str [102,97,105,108,101,100,32,116,111,32,99,114,101,97,116,101,32,115,121,109,98,111,108,105,99,32,108,105,110,107,32,66,58,32,69],.str [65,32,97,110,100,32,66,32,97,114,101,32,116,104,101,32,115,97,109,101,32,102,105,108,101],.str [116,97,114,103,101,116,32,65,32,105,115,32,110,111,116,32,97,32,100,105,114,101,99,116,111,114,121],.str [99,97,110,110,111,116,32,115,116,97,116,32,65,58,32,69],.str [99,97,110,110,111,116,32,111,118,101,114,119,114,105,116,101,32,110,111,110,45,100,105,114,101,99,116,111,114,121,32,66,32,119,105,116,104,32,100,105,114,101,99,116,111,114,121,32,65],.str [99,97,110,110,111,116,32,111,118,101,114,119,114,105,116,101,32,100,105,114,101,99,116,111,114,121,32,66,32,119,105,116,104,32,110,111,110,45,100,105,114,101,99,116,111,114,121,32,65],.str [99,97,110,110,111,116,32,109,111,118,101,32,65,32,116,111,32,97,32,115,117,98,100,105,114,101,99,116,111,114,121,32,111,102,32,105,116,115,101,108,102,44,32,66],.str [99,97,110,110,111,116,32,109,111,118,101,32,65,32,116,111,32,66,58,32,69],.str [45,114,32,110,111,116,32,115,112,101,99,105,102,105,101,100,59,32,111,109,105,116,116,105,110,103,32,100,105,114,101,99,116,111,114,121,32,65],.str [99,97,110,110,111,116,32,99,114,101,97,116,101,32,114,101,103,117,108,97,114,32,102,105,108,101,32,66,58,32,69],.str [99,97,110,110,111,116,32,99,114,101,97,116,101,32,115,121,109,98,111,108,105,99,32,108,105,110,107,32,66,58,32,69],.str [99,97,110,110,111,116,32,99,111,112,121,32,97,32,100,105,114,101,99,116,111,114,121,44,32,65,44,32,105,110,116,111,32,105,116,115,101,108,102,44,32,66],.str [110,111,116,32,119,114,105,116,105,110,103,32,116,104,114,111,117,103,104,32,100,97,110,103,108,105,110,103,32,115,121,109,108,105,110,107,32,66],.str [101,114,114,111,114,32,119,114,105,116,105,110,103,32,66,58,32,69],.str [99,97,110,110,111,116,32,99,114,101,97,116,101,32,100,105,114,101,99,116,111,114,121,32,66,58,32,69]]:=rfl
theorem zhe:G2 1=some [.str [],.str [],.sc (.int .i64 0),.str [109,107,100,105,114],.str [112],.sc (.int .i64 1),.str [114,109],.str [82,100,102,114],.sc (.int .i64 1),.str [108,110],.str [84,102,110,115],.sc (.int .i64 1),.str [109,118],.str [84,102,110],.sc (.int .i64 2),.str [99,112],.str [80,82,84,102,110,114],.sc (.int .i64 2)]:=rfl
theorem zkl:G2 3=some [.str [83,117,99,99,101,115,115],.str [78,111,32,115,117,99,104,32,102,105,108,101,32,111,114,32,100,105,114,101,99,116,111,114,121],.str [70,105,108,101,32,101,120,105,115,116,115],.str [78,111,116,32,97,32,100,105,114,101,99,116,111,114,121],.str [73,115,32,97,32,100,105,114,101,99,116,111,114,121],.str [68,105,114,101,99,116,111,114,121,32,110,111,116,32,101,109,112,116,121],.str [84,111,111,32,109,97,110,121,32,108,101,118,101,108,115,32,111,102,32,115,121,109,98,111,108,105,99,32,108,105,110,107,115],.str [70,105,108,101,32,110,97,109,101,32,116,111,111,32,108,111,110,103],.str [78,111,32,115,112,97,99,101,32,108,101,102,116,32,111,110,32,100,101,118,105,99,101],.str [73,110,118,97,108,105,100,32,97,114,103,117,109,101,110,116],.str [68,101,118,105,99,101,32,111,114,32,114,101,115,111,117,114,99,101,32,98,117,115,121],.str [79,112,101,114,97,116,105,111,110,32,110,111,116,32,112,101,114,109,105,116,116,101,100],.str [77,97,108,102,111,114,109,101,100,32,116,101,120,116],.str [78,111,116,32,105,110,32,116,104,101,32,115,116,97,115,104]]:=rfl
attribute [push_cast] zlH zhe zkl
def UE (k:Int):List UInt8:=if k=1 then [109,107,100,105,114] else if k=2 then [114,109] else if k=3 then [108,110] else if k=4 then [109,118] else if k=5 then [99,112] else []
def zO (k:Int):List UInt8:=if k=1 then [99,97,110,110,111,116,32,99,114,101,97,116,101,32,100,105,114,101,99,116,111,114,121,32,65,58,32,69] else if k=2 then [99,97,110,110,111,116,32,114,101,109,111,118,101,32,65,58,32,69] else if k=3 then [114,101,102,117,115,105,110,103,32,116,111,32,114,101,109,111,118,101,32,34,46,34,32,111,114,32,34,46,46,34,32,100,105,114,101,99,116,111,114,121,58,32,115,107,105,112,112,105,110,103,32,65] else if k=4 then [105,116,32,105,115,32,100,97,110,103,101,114,111,117,115,32,116,111,32,111,112,101,114,97,116,101,32,114,101,99,117,114,115,105,118,101,108,121,32,111,110,32,65] else if k=5 then [102,97,105,108,101,100,32,116,111,32,97,99,99,101,115,115,32,65,58,32,69] else if k=6 then [65,58,32,104,97,114,100,32,108,105,110,107,32,110,111,116,32,97,108,108,111,119,101,100,32,102,111,114,32,100,105,114,101,99,116,111,114,121] else if k=7 then [102,97,105,108,101,100,32,116,111,32,99,114,101,97,116,101,32,104,97,114,100,32,108,105,110,107,32,66,58,32,69] else if k=8 then [102,97,105,108,101,100,32,116,111,32,99,114,101,97,116,101,32,115,121,109,98,111,108,105,99,32,108,105,110,107,32,66,58,32,69] else if k=9 then [65,32,97,110,100,32,66,32,97,114,101,32,116,104,101,32,115,97,109,101,32,102,105,108,101] else if k=10 then [116,97,114,103,101,116,32,65,32,105,115,32,110,111,116,32,97,32,100,105,114,101,99,116,111,114,121] else if k=11 then [99,97,110,110,111,116,32,115,116,97,116,32,65,58,32,69] else if k=12 then [99,97,110,110,111,116,32,111,118,101,114,119,114,105,116,101,32,110,111,110,45,100,105,114,101,99,116,111,114,121,32,66,32,119,105,116,104,32,100,105,114,101,99,116,111,114,121,32,65] else if k=13 then [99,97,110,110,111,116,32,111,118,101,114,119,114,105,116,101,32,100,105,114,101,99,116,111,114,121,32,66,32,119,105,116,104,32,110,111,110,45,100,105,114,101,99,116,111,114,121,32,65] else if k=14 then [99,97,110,110,111,116,32,109,111,118,101,32,65,32,116,111,32,97,32,115,117,98,100,105,114,101,99,116,111,114,121,32,111,102,32,105,116,115,101,108,102,44,32,66] else if k=15 then [99,97,110,110,111,116,32,109,111,118,101,32,65,32,116,111,32,66,58,32,69] else if k=16 then [45,114,32,110,111,116,32,115,112,101,99,105,102,105,101,100,59,32,111,109,105,116,116,105,110,103,32,100,105,114,101,99,116,111,114,121,32,65] else if k=17 then [99,97,110,110,111,116,32,99,114,101,97,116,101,32,114,101,103,117,108,97,114,32,102,105,108,101,32,66,58,32,69] else if k=18 then [99,97,110,110,111,116,32,99,114,101,97,116,101,32,115,121,109,98,111,108,105,99,32,108,105,110,107,32,66,58,32,69] else if k=19 then [99,97,110,110,111,116,32,99,111,112,121,32,97,32,100,105,114,101,99,116,111,114,121,44,32,65,44,32,105,110,116,111,32,105,116,115,101,108,102,44,32,66] else if k=20 then [110,111,116,32,119,114,105,116,105,110,103,32,116,104,114,111,117,103,104,32,100,97,110,103,108,105,110,103,32,115,121,109,108,105,110,107,32,66] else if k=21 then [101,114,114,111,114,32,119,114,105,116,105,110,103,32,66,58,32,69] else if k=22 then [99,97,110,110,111,116,32,99,114,101,97,116,101,32,100,105,114,101,99,116,111,114,121,32,66,58,32,69] else []
def M4 (k:Int):List UInt8:=if k=0 then [83,117,99,99,101,115,115] else if k=1 then [78,111,32,115,117,99,104,32,102,105,108,101,32,111,114,32,100,105,114,101,99,116,111,114,121] else if k=2 then [70,105,108,101,32,101,120,105,115,116,115] else if k=3 then [78,111,116,32,97,32,100,105,114,101,99,116,111,114,121] else if k=4 then [73,115,32,97,32,100,105,114,101,99,116,111,114,121] else if k=5 then [68,105,114,101,99,116,111,114,121,32,110,111,116,32,101,109,112,116,121] else if k=6 then [84,111,111,32,109,97,110,121,32,108,101,118,101,108,115,32,111,102,32,115,121,109,98,111,108,105,99,32,108,105,110,107,115] else if k=7 then [70,105,108,101,32,110,97,109,101,32,116,111,111,32,108,111,110,103] else if k=8 then [78,111,32,115,112,97,99,101,32,108,101,102,116,32,111,110,32,100,101,118,105,99,101] else if k=9 then [73,110,118,97,108,105,100,32,97,114,103,117,109,101,110,116] else if k=10 then [68,101,118,105,99,101,32,111,114,32,114,101,115,111,117,114,99,101,32,98,117,115,121] else if k=11 then [79,112,101,114,97,116,105,111,110,32,110,111,116,32,112,101,114,109,105,116,116,101,100] else if k=12 then [77,97,108,102,111,114,109,101,100,32,116,101,120,116] else if k=13 then [78,111,116,32,105,110,32,116,104,101,32,115,116,97,115,104] else [85,110,107,110,111,119,110,32,101,114,114,111,114]
theorem GO (k:Int):Fun Tryz.prog G2 102 [.sc (.int .i64 k)] (.str (UE k)) 0:=by
 by_cases h1:1<=k
 ·by_cases h2:k<=5
  ·have hc:k=1∨k=2∨k=3∨k=4∨k=5:=by omega
   clear h1 h2
   rcases hc with rfl | rfl | rfl | rfl | rfl
   all_goals
    refine Fun.of (fun _=>[]) Tryz.func102 rfl (zp rfl) (by kernel_rfl) ?_;dsimp only[Tryz.f102]
    push_cast -dsimp
    exact ⟨[],rfl,rfl,by simp only[UE];push_cast -dsimp [zb,za,CLe,ze]<;>rfl⟩
  ·have n1:¬k=1:=(by omega);have n2:¬k=2:=(by omega);have n3:¬k=3:=(by omega);have n4:¬k=4:=(by omega);have n5:¬k=5:=(by omega)
   have f1:¬k<1:=(by omega);have f2:6<=k:=(by omega);have f3:5<k:=(by omega)
   refine Fun.of (fun _=>[]) Tryz.func102 rfl (zp rfl) (by kernel_rfl) ?_;dsimp only[Tryz.f102]
   push_cast -dsimp [f1,f2,f3,n1,n2,n3,n4,n5]
   exact ⟨[],rfl,rfl,by push_cast -dsimp [zb,za,CLe,ze]<;>simp[UE,n1,n2,n3,n4,n5]⟩
 ·have n1:¬k=1:=(by omega);have n2:¬k=2:=(by omega);have n3:¬k=3:=(by omega);have n4:¬k=4:=(by omega);have n5:¬k=5:=(by omega)
  have f1:k<1:=by omega
  refine Fun.of (fun _=>[]) Tryz.func102 rfl (zp rfl) (by kernel_rfl) ?_;dsimp only[Tryz.f102]
  push_cast -dsimp [f1,n1,n2,n3,n4,n5]
  exact ⟨[],rfl,rfl,by push_cast -dsimp [zb,za,CLe,ze]<;>simp[UE,n1,n2,n3,n4,n5]⟩
theorem uU (k:Int):Fun Tryz.prog G2 103 [.sc (.int .i64 k)] (.str (zO k)) 0:=by
 by_cases h1:0<=k
 ·by_cases h2:k<=22
  ·have hc:k=0∨k=1∨k=2∨k=3∨k=4∨k=5∨k=6∨k=7∨k=8∨k=9∨k=10∨k=11∨k=12∨k=13∨k=14∨k=15∨k=16∨k=17∨k=18∨k=19∨k=20∨k=21∨k=22:=by omega
   clear h1 h2
   rcases hc with rfl | rfl | rfl | rfl | rfl | rfl | rfl | rfl | rfl | rfl | rfl | rfl | rfl | rfl | rfl | rfl | rfl | rfl | rfl | rfl | rfl | rfl | rfl
   all_goals
    refine Fun.of (fun _=>[]) Tryz.func103 rfl (zp rfl) (by kernel_rfl) ?_;dsimp only[Tryz.f103]
    push_cast -dsimp
    exact ⟨[],rfl,rfl,by simp only[zO];push_cast -dsimp [zb,za,CLe,ze]<;>rfl⟩
  ·have n1:¬k=1:=(by omega);have n2:¬k=2:=(by omega);have n3:¬k=3:=(by omega);have n4:¬k=4:=(by omega);have n5:¬k=5:=(by omega);have n6:¬k=6:=(by omega);have n7:¬k=7:=(by omega);have n8:¬k=8:=(by omega);have n9:¬k=9:=(by omega);have n10:¬k=10:=(by omega);have n11:¬k=11:=(by omega);have n12:¬k=12:=(by omega);have n13:¬k=13:=(by omega);have n14:¬k=14:=(by omega);have n15:¬k=15:=(by omega);have n16:¬k=16:=(by omega);have n17:¬k=17:=(by omega);have n18:¬k=18:=(by omega);have n19:¬k=19:=(by omega);have n20:¬k=20:=(by omega);have n21:¬k=21:=(by omega);have n22:¬k=22:=(by omega)
   have f1:¬k<0:=(by omega);have f2:23<=k:=(by omega);have f3:22<k:=(by omega)
   refine Fun.of (fun _=>[]) Tryz.func103 rfl (zp rfl) (by kernel_rfl) ?_;dsimp only[Tryz.f103]
   push_cast -dsimp [f1,f2,f3,n1,n2,n3,n4,n5,n6,n7,n8,n9,n10,n11,n12,n13,n14,n15,n16,n17,n18,n19,n20,n21,n22]
   exact ⟨[],rfl,rfl,by push_cast -dsimp [zb,za,CLe,ze]<;>simp[zO,n1,n2,n3,n4,n5,n6,n7,n8,n9,n10,n11,n12,n13,n14,n15,n16,n17,n18,n19,n20,n21,n22]⟩
 ·have n1:¬k=1:=(by omega);have n2:¬k=2:=(by omega);have n3:¬k=3:=(by omega);have n4:¬k=4:=(by omega);have n5:¬k=5:=(by omega);have n6:¬k=6:=(by omega);have n7:¬k=7:=(by omega);have n8:¬k=8:=(by omega);have n9:¬k=9:=(by omega);have n10:¬k=10:=(by omega);have n11:¬k=11:=(by omega);have n12:¬k=12:=(by omega);have n13:¬k=13:=(by omega);have n14:¬k=14:=(by omega);have n15:¬k=15:=(by omega);have n16:¬k=16:=(by omega);have n17:¬k=17:=(by omega);have n18:¬k=18:=(by omega);have n19:¬k=19:=(by omega);have n20:¬k=20:=(by omega);have n21:¬k=21:=(by omega);have n22:¬k=22:=(by omega)
  have f1:k<0:=by omega
  refine Fun.of (fun _=>[]) Tryz.func103 rfl (zp rfl) (by kernel_rfl) ?_;dsimp only[Tryz.f103]
  push_cast -dsimp [f1,n1,n2,n3,n4,n5,n6,n7,n8,n9,n10,n11,n12,n13,n14,n15,n16,n17,n18,n19,n20,n21,n22]
  exact ⟨[],rfl,rfl,by push_cast -dsimp [zb,za,CLe,ze]<;>simp[zO,n1,n2,n3,n4,n5,n6,n7,n8,n9,n10,n11,n12,n13,n14,n15,n16,n17,n18,n19,n20,n21,n22]⟩
theorem Ms (k:Int):Fun Tryz.prog G2 155 [.sc (.int .i64 k)] (.str (M4 k)) 0:=by
 by_cases h1:0<=k
 ·by_cases h2:k<=13
  ·have hc:k=0∨k=1∨k=2∨k=3∨k=4∨k=5∨k=6∨k=7∨k=8∨k=9∨k=10∨k=11∨k=12∨k=13:=by omega
   clear h1 h2
   rcases hc with rfl | rfl | rfl | rfl | rfl | rfl | rfl | rfl | rfl | rfl | rfl | rfl | rfl | rfl
   all_goals
    refine Fun.of (fun _=>[]) Tryz.func155 rfl (zp rfl) (by kernel_rfl) ?_;dsimp only[Tryz.f155]
    push_cast -dsimp
    exact ⟨[],rfl,rfl,by simp only[M4];push_cast -dsimp [zb,za,CLe,ze]<;>rfl⟩
  ·have n0:¬k=0:=(by omega);have n1:¬k=1:=(by omega);have n2:¬k=2:=(by omega);have n3:¬k=3:=(by omega);have n4:¬k=4:=(by omega);have n5:¬k=5:=(by omega);have n6:¬k=6:=(by omega);have n7:¬k=7:=(by omega);have n8:¬k=8:=(by omega);have n9:¬k=9:=(by omega);have n10:¬k=10:=(by omega);have n11:¬k=11:=(by omega);have n12:¬k=12:=(by omega);have n13:¬k=13:=(by omega)
   have f1:¬k<0:=(by omega);have f2:14<=k:=(by omega);have f3:13<k:=(by omega)
   refine Fun.of (fun _=>[]) Tryz.func155 rfl (zp rfl) (by kernel_rfl) ?_;dsimp only[Tryz.f155]
   push_cast -dsimp [f1,f2,f3,n0,n1,n2,n3,n4,n5,n6,n7,n8,n9,n10,n11,n12,n13]
   exact ⟨[],rfl,rfl,by push_cast -dsimp [zb,za,CLe,ze]<;>simp[M4,n0,n1,n2,n3,n4,n5,n6,n7,n8,n9,n10,n11,n12,n13]⟩
 ·have n0:¬k=0:=(by omega);have n1:¬k=1:=(by omega);have n2:¬k=2:=(by omega);have n3:¬k=3:=(by omega);have n4:¬k=4:=(by omega);have n5:¬k=5:=(by omega);have n6:¬k=6:=(by omega);have n7:¬k=7:=(by omega);have n8:¬k=8:=(by omega);have n9:¬k=9:=(by omega);have n10:¬k=10:=(by omega);have n11:¬k=11:=(by omega);have n12:¬k=12:=(by omega);have n13:¬k=13:=(by omega)
  have f1:k<0:=by omega
  refine Fun.of (fun _=>[]) Tryz.func155 rfl (zp rfl) (by kernel_rfl) ?_;dsimp only[Tryz.f155]
  push_cast -dsimp [f1,n0,n1,n2,n3,n4,n5,n6,n7,n8,n9,n10,n11,n12,n13]
  exact ⟨[],rfl,rfl,by push_cast -dsimp [zb,za,CLe,ze]<;>simp[M4,n0,n1,n2,n3,n4,n5,n6,n7,n8,n9,n10,n11,n12,n13]⟩
open QuotePlain in
theorem NT (l:List UInt8) (hl:l.length<=1000000):Fun Tryz.prog G0 154 [.str l] (.str (ju l)) 0:=by
 refine Fun.wrap (by kernel_rfl) fun R vs h=>?_
 obtain ⟨v1,us1,rfl,h1,h⟩:=zd.1 h
 rw[zh]at h
 subst h
 rw[zR]at h1
 subst h1
 refine (QuoteWalk.quote_walk ⟨l.toArray⟩ R.w (by simp[ByteArray.size];omega)).mono ?_
 rintro e w' ⟨rfl,hb⟩
 exact ⟨_,rfl,hb,fun R' _=>zR.2 (by simp[Kit.ofL,Kit.toL])⟩
end
section
open Go.RowKit
theorem Fun.res {P:Program} {G:zk} {f:FuncId} {args:List C} {r r':C} {n:Nat} (h:Fun P G f args r n) (e:r=r'):Fun P G f args r' n:=e▸h
theorem ZM.glob0 {P:Program} {G':zk} {f:FuncId} {args:List C} {bx bx':List (List C)} {q:Nat} {r:C} {n:Nat} (h:ZM P G0 f args bx q r bx' n):ZM P G' f args bx q r bx' n:=
 ⟨h.1,fun R L vs hg=>h.2 R L vs fun g cs e=>by cases e⟩
theorem UM.glob0 {P:Program} {G':zk} {f:FuncId} {first cap:List C} {bx items:List (List C)} (h:UM P G0 f first cap bx items):UM P G' f first cap bx items:=
 ⟨h.1,fun l st J R L us vs hg=>h.2 l st J R L us vs fun g cs e=>by cases e⟩
def Jy (c:UInt8):List UInt8->List (List UInt8)
 | []=>[[]]
 | b :: l=>if b=c then [] :: Jy c l else match Jy c l with
  | []=>[[b]]
  | x :: r=>(b :: x) :: r
theorem VT (c:UInt8):∀ l:List UInt8,Lib.indexByte l c<0->Jy c l = [l]
 | [],_=>rfl
 | b :: l,h=>by
  unfold Lib.indexByte at h
  by_cases hb:b=c
  ·subst hb;simp at h
  ·have hb':(b==c)=false:=by simpa using hb
   rw[hb']at h
   simp only[Bool.false_eq_true,if_false]at h
   have hl:Lib.indexByte l c<0:=by
    split at h
    ·rename_i g;have:=beq_iff_eq.1 g;omega
    ·omega
   unfold Jy
   rw[if_neg hb,VT c l hl]
theorem VM (c:UInt8):∀ l:List UInt8,-1<=Lib.indexByte l c
 | []=>Int.le_refl _
 | b :: l=>by
  have:=VM c l
  unfold Lib.indexByte
  split
  ·decide
  ·split
   ·decide
   ·omega
theorem Gm (c:UInt8):∀ (l:List UInt8) (i:Nat),Lib.indexByte l c=(i:Int)->i<l.length/\Jy c l=l.take i :: Jy c (l.drop (i+1))
 | [],i,h=>by
  have h:(-1:Int)=(i:Int):=h
  omega
 | b :: l,i,h=>by
  unfold Lib.indexByte at h
  by_cases hb:b=c
  ·subst hb
   simp at h
   obtain rfl:i=0:=by omega
   refine ⟨by simp,?_⟩
   conv=>lhs;unfold Jy
   simp
  ·have hb':(b==c)=false:=by simpa using hb
   rw[hb']at h
   simp only[Bool.false_eq_true,if_false]at h
   split at h
   ·omega
   ·rename_i g
    have g':Lib.indexByte l c≠-1:=by simpa using g
    have hg:=VM c l
    obtain ⟨j,rfl⟩:∃ j,i=j+1:=⟨i-1,by omega⟩
    have hj:Lib.indexByte l c=(j:Int):=by omega
    obtain ⟨h1,h2⟩:=Gm c l j hj
    refine ⟨by simp;omega,?_⟩
    conv=>lhs;unfold Jy
    rw[if_neg hb,h2]
    simp
theorem MM (c:UInt8) (l:List UInt8):(Jy c l).length<=l.length+1:=by
 induction l with
 | nil=>simp[Jy]
 | cons b l ih =>
  unfold Jy
  split
  ·simp;omega
  ·split
   ·simp
   ·rename_i x r h
    rw[h]at ih
    simp at ih ⊢;omega
theorem ui (c:UInt8) (l:List UInt8):Fun Tryz.prog G0 186 [.str l,.str [c]] (.sc (.int .i64 (Lib.indexByte l c))) 0:=by
 refine Fun.wrap (by kernel_rfl) fun R vs h=>?_
 obtain ⟨v1,us1,rfl,h1,h⟩:=zd.1 h
 obtain ⟨v2,us2,rfl,h2,h⟩:=zd.1 h
 rw[zh]at h
 subst h
 rw[zR]at h1 h2
 subst h1 h2
 refine (Tryz.strings_Index_one ⟨l.toArray⟩ c R.w).mono ?_
 rintro e w' ⟨rfl,rfl⟩
 exact ⟨_,rfl,Below.refl _ _,fun R' _=>zn.2 (by simp)⟩
theorem Nb (c:UInt8) (s:List UInt8) (hs:s.length<=1000000):UM Tryz.prog G0 184 [] [.ptr 1 0,.ptr 0 0,.ptr 2 0] [[.str s],[.str [c]],[.sc (.int .i64 0)]] (qA (Jy c s)):=by
 refine UM.of (fun _=>[]) Tryz.func184 rfl (zp rfl) (by kernel_rfl) ?_;dsimp only[Tryz.f184]
 intro l sf
 push_cast -dsimp
 refine loop (fun x:List UInt8×Nat=>⟨[(0,.sc (.func (.yield l) #[] #[])),(1,.ptr 1 0),(2,.ptr 0 0),(3,.ptr 2 0)],[[.str x.1],[.str [c]],[.sc (.int .i64 0)]],0,x.2⟩)
  (fun x=>x.1.length<=1000000/\(∃ done,Jy c s=done++Jy c x.1/\done.length=x.2)/\∀ j,j<x.2->sf j=false) (fun x=>x.1.length) (s,0) ⟨hs,⟨[],rfl,rfl⟩,fun j hj=>by omega⟩ ?_ ?_
 ·refine zS.mk [] rfl rfl (Nat.zero_le _) rfl ?_ ?_<;>push_cast -dsimp [zb,za,CLe,ze]<;>omega
 ·rintro ⟨r,k⟩ hx
  simp only at hx ⊢
  have hr:=hx.1
  have hsf:=hx.2.2
  obtain ⟨done,hd,hdl⟩:=hx.2.1
  clear hx
  push_cast -dsimp
  refine call (ui c r) ?_
  push_cast -dsimp
  by_cases hi:Lib.indexByte r c<0
  ·push_cast -dsimp [hi]
   have hk:(qA (Jy c s))[k]?=some [.str r]:=by
    rw[hd,VT c r hi];simp[←hdl]
   rw[hk]
   push_cast -dsimp
   refine ⟨by push_cast -dsimp [zb,za,CLe,ze],hsf,?_⟩
   cases hk2:sf k with
   | true=>exact .inr ⟨Nat.succ_pos k,hk2⟩
   | false =>
    refine .inl ⟨?_,fun j (hj:j<k+1)=>?_⟩
    ·rw[hd,VT c r hi];simp[hdl]
    ·rcases Nat.lt_or_ge j k with g | g
     ·exact hsf j g
     ·rw[show j=k by omega];exact hk2
  ·have hg:=VM c r
   obtain ⟨i,hii⟩:∃ i:Nat,Lib.indexByte r c=(i:Int):=⟨(Lib.indexByte r c).toNat,by omega⟩
   obtain ⟨hir,hsp⟩:=Gm c r i hii
   have hk:(qA (Jy c s))[k]?=some [.str (r.take i)]:=by
    rw[hd,hsp];simp[←hdl]
   rw[hii]at hi ⊢
   push_cast -dsimp [hi]
   rw[hk]
   push_cast -dsimp
   refine ⟨by omega,by omega,by push_cast -dsimp [zb,za,CLe,ze],hsf,br (fun hk2=>?_) (fun hk2=>?_)⟩
   ·push_cast -dsimp
    exact .inr ⟨Nat.succ_pos k,hk2⟩
   ·push_cast -dsimp
    refine ⟨by omega,by omega,(r.drop (i+1),k+1),⟨by simp;omega,⟨done++[r.take i],by rw[hd,hsp];simp,by simp[hdl]⟩,fun j (hj:j<k+1)=>?_⟩,by simp;omega,zS.mk [] rfl rfl (Nat.zero_le _) rfl ?_ ?_⟩
    ·rcases Nat.lt_or_ge j k with g | g
     ·exact hsf j g
     ·rw[show j=k by omega];exact hk2
    ·push_cast -dsimp [zb,za,CLe,ze]
    ·push_cast -dsimp [zb,za,CLe,ze]
theorem HO (c:UInt8) (s:List UInt8):ZM Tryz.prog G0 152 [.str s,.str [c],.sc (.int .i64 0)] [] 0 (.clo (.func 184) [] [.ptr 1 0,.ptr 0 0,.ptr 2 0]) [[.str s],[.str [c]],[.sc (.int .i64 0)]] 0:=by
 refine ZM.of (fun _=>[]) Tryz.func152 rfl (zp rfl) (by kernel_rfl) (zp rfl) ?_;dsimp only[Tryz.f152]
 push_cast -dsimp
 exact ⟨[],rfl,rfl,by push_cast -dsimp [zb,za,CLe,ze],by push_cast -dsimp [zb,za,CLe,ze]⟩
theorem HS (c:UInt8) (s:List UInt8):ZM Tryz.prog G0 104 [.str s,.str [c]] [] 0 (.clo (.func 184) [] [.ptr 1 0,.ptr 0 0,.ptr 2 0]) [[.str s],[.str [c]],[.sc (.int .i64 0)]] 0:=by
 refine ZM.of (fun _=>[]) Tryz.func104 rfl (zp rfl) (by kernel_rfl) (zp rfl) ?_;dsimp only[Tryz.f104]
 push_cast -dsimp
 refine MY [] [] (HO c s) rfl (by simp) (by simp) (fun i hi=>by cases hi) (by push_cast -dsimp) rfl ?_
 push_cast -dsimp
 exact ⟨[],rfl,rfl,by push_cast -dsimp [zb,za,CLe,ze],by push_cast -dsimp [zb,za,CLe,ze]⟩
end
section
open CA CB
open Go.RowKit QuotePlain
def zl (l:List UInt8):List UInt8:=Lib.trimRightS l [58,44]
theorem zei (l:List UInt8):(zl l).length<=l.length:=by
 unfold zl Lib.trimRightS
 rw[List.length_reverse]
 have:=(List.dropWhile_sublist (([58,44]:List UInt8).contains ·) (l:=l.reverse)).length_le
 rw[List.length_reverse]at this
 exact this
theorem zgS (l:List UInt8) (h0:l≠[]) (hl:l.length<=1000000):Fun Tryz.prog G0 153 [.str l,.str [58,44]] (.str (zl l)) 0:=by
 refine Fun.wrap (by kernel_rfl) fun R vs h=>?_
 obtain ⟨v1,us1,rfl,h1,h⟩:=zd.1 h
 obtain ⟨v2,us2,rfl,h2,h⟩:=zd.1 h
 rw[zh]at h
 subst h
 rw[zR]at h1 h2
 subst h1 h2
 have hpos:=List.length_pos_iff.2 h0
 refine (Any.strings_TrimRight_set Tryz.lays162 kK (by kernel_rfl) ⟨l.toArray⟩ ⟨#[58,44]⟩ R.w (by decide) (by simpa [ByteArray.size] using hpos) (by simp[ByteArray.size];omega) (by decide) (fun j b hb=>?_)).mono ?_
 ·match j,hb with
  | 0,hb=>cases hb;decide
  | 1,hb=>cases hb;decide
  | j+2,hb=>simp at hb
 ·rintro e w' ⟨rfl,rfl⟩
  exact ⟨_,rfl,((Below.refl _ _).alloc (Nat.le_refl _) _).alloc (by simp) _,fun R' _=>zR.2 (by simp[zl])⟩
def zf (w qa qb m:List UInt8):List UInt8:=
 if zl w = [65] then qa++w.drop (zl w).length else if zl w = [66] then qb++w.drop (zl w).length else if zl w = [69] then m++w.drop (zl w).length else w
theorem XG (l:List UInt8):(ju l).length<=4*l.length+2:=by
 have:=QuoteWalk.mid_len l
 simp only[ju,List.length_cons,List.length_append,List.length_nil]
 omega
theorem yX (e:Int):(M4 e).length<=100:=by
 have key:∀ (c:Prop) [Decidable c] (x y:List UInt8),x.length<=100->y.length<=100->(if c then x else y).length<=100:=fun c _ x y hx hy=>by
  by_cases h:c
  ·rw[if_pos h];exact hx
  ·rw[if_neg h];exact hy
 unfold M4
 repeat' (first | decide | refine key _ _ _ (by decide) ?_)
theorem zcX (w a b:List UInt8) (e:Int) (ha:a.length<=1000) (hb:b.length<=1000):(zf w (ju a) (ju b) (M4 e)).length<=w.length+5000:=by
 have h1:=XG a
 have h2:=XG b
 have h3:=yX e
 unfold zf
 repeat' split
 all_goals (try simp only[List.length_append,List.length_drop]);omega
theorem zf4 (w a b:List UInt8) (e:Int) (h0:w≠[]) (hw:w.length<=1000) (ha:a.length<=1000) (hb:b.length<=1000):Fun Tryz.prog G2 105 [.str w,.str a,.str b,.sc (.int .i64 e)] (.str (zf w (ju a) (ju b) (M4 e))) 0:=by
 have h1:=(zgS w h0 (by omega)).glob0 (G':=G2)
 have h2:=(NT a (by omega)).glob0 (G':=G2)
 have h3:=(NT b (by omega)).glob0 (G':=G2)
 have h4:=Ms e
 have hl:=zei w
 have l1:=XG a
 have l2:=XG b
 have l3:=yX e
 by_cases hA:zl w = [65]
 ·refine Fun.of (fun _=>[]) Tryz.func105 rfl (zp rfl) (by kernel_rfl) ?_;dsimp only[Tryz.f105]
  push_cast -dsimp
  refine cl (h1) ?_;push_cast -dsimp
  (try simp only[lS]);repeat refine And.intro (by omega) ?_
  push_cast -dsimp [hA]
  refine cl (h2) ?_;push_cast -dsimp
  (try simp only[lS]);repeat refine And.intro (by omega) ?_
  exact ⟨[],rfl,rfl,by push_cast -dsimp [zb,za,CLe,ze]<;>simp[zf,hA]⟩
 ·by_cases hB:zl w = [66]
  ·have hA':¬([66]:List UInt8) = [65]:=by decide
   refine Fun.of (fun _=>[]) Tryz.func105 rfl (zp rfl) (by kernel_rfl) ?_;dsimp only[Tryz.f105]
   push_cast -dsimp
   refine cl (h1) ?_;push_cast -dsimp
   (try simp only[lS]);repeat refine And.intro (by omega) ?_
   push_cast -dsimp [hB,hA']
   refine cl (h3) ?_;push_cast -dsimp
   (try simp only[lS]);repeat refine And.intro (by omega) ?_
   exact ⟨[],rfl,rfl,by push_cast -dsimp [zb,za,CLe,ze]<;>simp[zf,hB]⟩
  ·by_cases hE:zl w = [69]
   ·have hA':¬([69]:List UInt8) = [65]:=by decide
    have hB':¬([69]:List UInt8) = [66]:=by decide
    refine Fun.of (fun _=>[]) Tryz.func105 rfl (zp rfl) (by kernel_rfl) ?_;dsimp only[Tryz.f105]
    push_cast -dsimp
    refine cl (h1) ?_;push_cast -dsimp
    (try simp only[lS]);repeat refine And.intro (by omega) ?_
    push_cast -dsimp [hE,hA',hB']
    refine cl (h4) ?_;push_cast -dsimp
    (try simp only[lS]);repeat refine And.intro (by omega) ?_
    exact ⟨[],rfl,rfl,by push_cast -dsimp [zb,za,CLe,ze]<;>simp[zf,hE]⟩
   ·refine Fun.of (fun _=>[]) Tryz.func105 rfl (zp rfl) (by kernel_rfl) ?_;dsimp only[Tryz.f105]
    push_cast -dsimp
    refine cl (h1) ?_;push_cast -dsimp
    (try simp only[lS]);repeat refine And.intro (by omega) ?_
    push_cast -dsimp [hA,hB,hE]
    exact ⟨[],rfl,rfl,by push_cast -dsimp [zb,za,CLe,ze]<;>simp[zf,hA,hB,hE]⟩
theorem zfs (xs:List (List UInt8)) (hx:xs.length<=1000001) (hl:(Lib.join xs [58,32]).length<=100000000):Fun Tryz.prog G0 106 [.sl 1 (qA xs)] (.str (Lib.join xs [58,32])) 0:=by
 refine Fun.of (fun _=>[]) Tryz.func106 rfl (zp rfl) (by kernel_rfl) ?_;dsimp only[Tryz.f106]
 push_cast -dsimp
 refine cl (Hj xs [58,32] hx hl) ?_;push_cast -dsimp
 exact ⟨[],rfl,rfl,by push_cast -dsimp [zb,za,CLe,ze]⟩
end
section
open CA CB
open Go.RowKit QuotePlain
def Vc (k:Int) (qa qb m:List UInt8):List UInt8:=if k=1 then [99,97,110,110,111,116,32,99,114,101,97,116,101,32,100,105,114,101,99,116,111,114,121,32]++qa++[58,32]++m else if k=2 then [99,97,110,110,111,116,32,114,101,109,111,118,101,32]++qa++[58,32]++m else if k=3 then [114,101,102,117,115,105,110,103,32,116,111,32,114,101,109,111,118,101,32,34,46,34,32,111,114,32,34,46,46,34,32,100,105,114,101,99,116,111,114,121,58,32,115,107,105,112,112,105,110,103,32]++qa else if k=4 then [105,116,32,105,115,32,100,97,110,103,101,114,111,117,115,32,116,111,32,111,112,101,114,97,116,101,32,114,101,99,117,114,115,105,118,101,108,121,32,111,110,32]++qa else if k=5 then [102,97,105,108,101,100,32,116,111,32,97,99,99,101,115,115,32]++qa++[58,32]++m else if k=6 then qa++[58,32,104,97,114,100,32,108,105,110,107,32,110,111,116,32,97,108,108,111,119,101,100,32,102,111,114,32,100,105,114,101,99,116,111,114,121] else if k=7 then [102,97,105,108,101,100,32,116,111,32,99,114,101,97,116,101,32,104,97,114,100,32,108,105,110,107,32]++qb++[58,32]++m else if k=8 then [102,97,105,108,101,100,32,116,111,32,99,114,101,97,116,101,32,115,121,109,98,111,108,105,99,32,108,105,110,107,32]++qb++[58,32]++m else if k=9 then qa++[32,97,110,100,32]++qb++[32,97,114,101,32,116,104,101,32,115,97,109,101,32,102,105,108,101] else if k=10 then [116,97,114,103,101,116,32]++qa++[32,105,115,32,110,111,116,32,97,32,100,105,114,101,99,116,111,114,121] else if k=11 then [99,97,110,110,111,116,32,115,116,97,116,32]++qa++[58,32]++m else if k=12 then [99,97,110,110,111,116,32,111,118,101,114,119,114,105,116,101,32,110,111,110,45,100,105,114,101,99,116,111,114,121,32]++qb++[32,119,105,116,104,32,100,105,114,101,99,116,111,114,121,32]++qa else if k=13 then [99,97,110,110,111,116,32,111,118,101,114,119,114,105,116,101,32,100,105,114,101,99,116,111,114,121,32]++qb++[32,119,105,116,104,32,110,111,110,45,100,105,114,101,99,116,111,114,121,32]++qa else if k=14 then [99,97,110,110,111,116,32,109,111,118,101,32]++qa++[32,116,111,32,97,32,115,117,98,100,105,114,101,99,116,111,114,121,32,111,102,32,105,116,115,101,108,102,44,32]++qb else if k=15 then [99,97,110,110,111,116,32,109,111,118,101,32]++qa++[32,116,111,32]++qb++[58,32]++m else if k=16 then [45,114,32,110,111,116,32,115,112,101,99,105,102,105,101,100,59,32,111,109,105,116,116,105,110,103,32,100,105,114,101,99,116,111,114,121,32]++qa else if k=17 then [99,97,110,110,111,116,32,99,114,101,97,116,101,32,114,101,103,117,108,97,114,32,102,105,108,101,32]++qb++[58,32]++m else if k=18 then [99,97,110,110,111,116,32,99,114,101,97,116,101,32,115,121,109,98,111,108,105,99,32,108,105,110,107,32]++qb++[58,32]++m else if k=19 then [99,97,110,110,111,116,32,99,111,112,121,32,97,32,100,105,114,101,99,116,111,114,121,44,32]++qa++[44,32,105,110,116,111,32,105,116,115,101,108,102,44,32]++qb else if k=20 then [110,111,116,32,119,114,105,116,105,110,103,32,116,104,114,111,117,103,104,32,100,97,110,103,108,105,110,103,32,115,121,109,108,105,110,107,32]++qb else if k=21 then [101,114,114,111,114,32,119,114,105,116,105,110,103,32]++qb++[58,32]++m else if k=22 then [99,97,110,110,111,116,32,99,114,101,97,116,101,32,100,105,114,101,99,116,111,114,121,32]++qb++[58,32]++m else []
theorem Uh (k:Int) (h:¬(1<=k/\k<=22)):zO k = []:=by
 have n1:¬k=1:=by omega
 have n2:¬k=2:=by omega
 have n3:¬k=3:=by omega
 have n4:¬k=4:=by omega
 have n5:¬k=5:=by omega
 have n6:¬k=6:=by omega
 have n7:¬k=7:=by omega
 have n8:¬k=8:=by omega
 have n9:¬k=9:=by omega
 have n10:¬k=10:=by omega
 have n11:¬k=11:=by omega
 have n12:¬k=12:=by omega
 have n13:¬k=13:=by omega
 have n14:¬k=14:=by omega
 have n15:¬k=15:=by omega
 have n16:¬k=16:=by omega
 have n17:¬k=17:=by omega
 have n18:¬k=18:=by omega
 have n19:¬k=19:=by omega
 have n20:¬k=20:=by omega
 have n21:¬k=21:=by omega
 have n22:¬k=22:=by omega
 simp only[zO,n1,n2,n3,n4,n5,n6,n7,n8,n9,n10,n11,n12,n13,n14,n15,n16,n17,n18,n19,n20,n21,n22,if_false]
theorem GV (k:Int):zO k = []∨((∀ x∈Jy 32 (zO k),x≠[]/\x.length<=100)/\(zO k).length<=100):=by
 by_cases h:1<=k/\k<=22
 ·refine .inr ?_
  have hc:k=1∨k=2∨k=3∨k=4∨k=5∨k=6∨k=7∨k=8∨k=9∨k=10∨k=11∨k=12∨k=13∨k=14∨k=15∨k=16∨k=17∨k=18∨k=19∨k=20∨k=21∨k=22:=by omega
  clear h
  rcases hc with rfl | rfl | rfl | rfl | rfl | rfl | rfl | rfl | rfl | rfl | rfl | rfl | rfl | rfl | rfl | rfl | rfl | rfl | rfl | rfl | rfl | rfl<;>exact ⟨by decide +kernel,by decide +kernel⟩
 ·exact .inl (Uh k h)
theorem zgJ (k:Int) (qa qb m:List UInt8) (h:1<=k/\k<=22):Lib.join ((Jy 32 (zO k)).map fun w=>zf w qa qb m) [32]=Vc k qa qb m:=by
 have hc:k=1∨k=2∨k=3∨k=4∨k=5∨k=6∨k=7∨k=8∨k=9∨k=10∨k=11∨k=12∨k=13∨k=14∨k=15∨k=16∨k=17∨k=18∨k=19∨k=20∨k=21∨k=22:=by omega
 rcases hc with rfl | rfl | rfl | rfl | rfl | rfl | rfl | rfl | rfl | rfl | rfl | rfl | rfl | rfl | rfl | rfl | rfl | rfl | rfl | rfl | rfl | rfl
 ·have e1:Jy 32 (zO 1) = [[99,97,110,110,111,116],[99,114,101,97,116,101],[100,105,114,101,99,116,111,114,121],[65,58],[69]]:=by decide +kernel
  have s0:zf [99,97,110,110,111,116] qa qb m = [99,97,110,110,111,116]:=by simp only[zf,show zl [99,97,110,110,111,116] = [99,97,110,110,111,116] by decide +kernel];rfl
  have s1:zf [99,114,101,97,116,101] qa qb m = [99,114,101,97,116,101]:=by simp only[zf,show zl [99,114,101,97,116,101] = [99,114,101,97,116,101] by decide +kernel];rfl
  have s2:zf [100,105,114,101,99,116,111,114,121] qa qb m = [100,105,114,101,99,116,111,114,121]:=by simp only[zf,show zl [100,105,114,101,99,116,111,114,121] = [100,105,114,101,99,116,111,114,121] by decide +kernel];rfl
  have s3:zf [65,58] qa qb m=qa++[58]:=by simp only[zf,show zl [65,58] = [65] by decide +kernel];rfl
  have s4:zf [69] qa qb m=m++[]:=by simp only[zf,show zl [69] = [69] by decide +kernel];rfl
  rw[e1]
  simp only[List.map_cons,List.map_nil,s0,s1,s2,s3,s4]
  simp[Lib.join,List.intercalate,List.intersperse,Vc]
 ·have e1:Jy 32 (zO 2) = [[99,97,110,110,111,116],[114,101,109,111,118,101],[65,58],[69]]:=by decide +kernel
  have s0:zf [99,97,110,110,111,116] qa qb m = [99,97,110,110,111,116]:=by simp only[zf,show zl [99,97,110,110,111,116] = [99,97,110,110,111,116] by decide +kernel];rfl
  have s1:zf [114,101,109,111,118,101] qa qb m = [114,101,109,111,118,101]:=by simp only[zf,show zl [114,101,109,111,118,101] = [114,101,109,111,118,101] by decide +kernel];rfl
  have s2:zf [65,58] qa qb m=qa++[58]:=by simp only[zf,show zl [65,58] = [65] by decide +kernel];rfl
  have s3:zf [69] qa qb m=m++[]:=by simp only[zf,show zl [69] = [69] by decide +kernel];rfl
  rw[e1]
  simp only[List.map_cons,List.map_nil,s0,s1,s2,s3]
  simp[Lib.join,List.intercalate,List.intersperse,Vc]
 ·have e1:Jy 32 (zO 3) = [[114,101,102,117,115,105,110,103],[116,111],[114,101,109,111,118,101],[34,46,34],[111,114],[34,46,46,34],[100,105,114,101,99,116,111,114,121,58],[115,107,105,112,112,105,110,103],[65]]:=by decide +kernel
  have s0:zf [114,101,102,117,115,105,110,103] qa qb m = [114,101,102,117,115,105,110,103]:=by simp only[zf,show zl [114,101,102,117,115,105,110,103] = [114,101,102,117,115,105,110,103] by decide +kernel];rfl
  have s1:zf [116,111] qa qb m = [116,111]:=by simp only[zf,show zl [116,111] = [116,111] by decide +kernel];rfl
  have s2:zf [114,101,109,111,118,101] qa qb m = [114,101,109,111,118,101]:=by simp only[zf,show zl [114,101,109,111,118,101] = [114,101,109,111,118,101] by decide +kernel];rfl
  have s3:zf [34,46,34] qa qb m = [34,46,34]:=by simp only[zf,show zl [34,46,34] = [34,46,34] by decide +kernel];rfl
  have s4:zf [111,114] qa qb m = [111,114]:=by simp only[zf,show zl [111,114] = [111,114] by decide +kernel];rfl
  have s5:zf [34,46,46,34] qa qb m = [34,46,46,34]:=by simp only[zf,show zl [34,46,46,34] = [34,46,46,34] by decide +kernel];rfl
  have s6:zf [100,105,114,101,99,116,111,114,121,58] qa qb m = [100,105,114,101,99,116,111,114,121,58]:=by simp only[zf,show zl [100,105,114,101,99,116,111,114,121,58] = [100,105,114,101,99,116,111,114,121] by decide +kernel];rfl
  have s7:zf [115,107,105,112,112,105,110,103] qa qb m = [115,107,105,112,112,105,110,103]:=by simp only[zf,show zl [115,107,105,112,112,105,110,103] = [115,107,105,112,112,105,110,103] by decide +kernel];rfl
  have s8:zf [65] qa qb m=qa++[]:=by simp only[zf,show zl [65] = [65] by decide +kernel];rfl
  rw[e1]
  simp only[List.map_cons,List.map_nil,s0,s1,s2,s3,s4,s5,s6,s7,s8]
  simp[Lib.join,List.intercalate,List.intersperse,Vc]
 ·have e1:Jy 32 (zO 4) = [[105,116],[105,115],[100,97,110,103,101,114,111,117,115],[116,111],[111,112,101,114,97,116,101],[114,101,99,117,114,115,105,118,101,108,121],[111,110],[65]]:=by decide +kernel
  have s0:zf [105,116] qa qb m = [105,116]:=by simp only[zf,show zl [105,116] = [105,116] by decide +kernel];rfl
  have s1:zf [105,115] qa qb m = [105,115]:=by simp only[zf,show zl [105,115] = [105,115] by decide +kernel];rfl
  have s2:zf [100,97,110,103,101,114,111,117,115] qa qb m = [100,97,110,103,101,114,111,117,115]:=by simp only[zf,show zl [100,97,110,103,101,114,111,117,115] = [100,97,110,103,101,114,111,117,115] by decide +kernel];rfl
  have s3:zf [116,111] qa qb m = [116,111]:=by simp only[zf,show zl [116,111] = [116,111] by decide +kernel];rfl
  have s4:zf [111,112,101,114,97,116,101] qa qb m = [111,112,101,114,97,116,101]:=by simp only[zf,show zl [111,112,101,114,97,116,101] = [111,112,101,114,97,116,101] by decide +kernel];rfl
  have s5:zf [114,101,99,117,114,115,105,118,101,108,121] qa qb m = [114,101,99,117,114,115,105,118,101,108,121]:=by simp only[zf,show zl [114,101,99,117,114,115,105,118,101,108,121] = [114,101,99,117,114,115,105,118,101,108,121] by decide +kernel];rfl
  have s6:zf [111,110] qa qb m = [111,110]:=by simp only[zf,show zl [111,110] = [111,110] by decide +kernel];rfl
  have s7:zf [65] qa qb m=qa++[]:=by simp only[zf,show zl [65] = [65] by decide +kernel];rfl
  rw[e1]
  simp only[List.map_cons,List.map_nil,s0,s1,s2,s3,s4,s5,s6,s7]
  simp[Lib.join,List.intercalate,List.intersperse,Vc]
 ·have e1:Jy 32 (zO 5) = [[102,97,105,108,101,100],[116,111],[97,99,99,101,115,115],[65,58],[69]]:=by decide +kernel
  have s0:zf [102,97,105,108,101,100] qa qb m = [102,97,105,108,101,100]:=by simp only[zf,show zl [102,97,105,108,101,100] = [102,97,105,108,101,100] by decide +kernel];rfl
  have s1:zf [116,111] qa qb m = [116,111]:=by simp only[zf,show zl [116,111] = [116,111] by decide +kernel];rfl
  have s2:zf [97,99,99,101,115,115] qa qb m = [97,99,99,101,115,115]:=by simp only[zf,show zl [97,99,99,101,115,115] = [97,99,99,101,115,115] by decide +kernel];rfl
  have s3:zf [65,58] qa qb m=qa++[58]:=by simp only[zf,show zl [65,58] = [65] by decide +kernel];rfl
  have s4:zf [69] qa qb m=m++[]:=by simp only[zf,show zl [69] = [69] by decide +kernel];rfl
  rw[e1]
  simp only[List.map_cons,List.map_nil,s0,s1,s2,s3,s4]
  simp[Lib.join,List.intercalate,List.intersperse,Vc]
 ·have e1:Jy 32 (zO 6) = [[65,58],[104,97,114,100],[108,105,110,107],[110,111,116],[97,108,108,111,119,101,100],[102,111,114],[100,105,114,101,99,116,111,114,121]]:=by decide +kernel
  have s0:zf [65,58] qa qb m=qa++[58]:=by simp only[zf,show zl [65,58] = [65] by decide +kernel];rfl
  have s1:zf [104,97,114,100] qa qb m = [104,97,114,100]:=by simp only[zf,show zl [104,97,114,100] = [104,97,114,100] by decide +kernel];rfl
  have s2:zf [108,105,110,107] qa qb m = [108,105,110,107]:=by simp only[zf,show zl [108,105,110,107] = [108,105,110,107] by decide +kernel];rfl
  have s3:zf [110,111,116] qa qb m = [110,111,116]:=by simp only[zf,show zl [110,111,116] = [110,111,116] by decide +kernel];rfl
  have s4:zf [97,108,108,111,119,101,100] qa qb m = [97,108,108,111,119,101,100]:=by simp only[zf,show zl [97,108,108,111,119,101,100] = [97,108,108,111,119,101,100] by decide +kernel];rfl
  have s5:zf [102,111,114] qa qb m = [102,111,114]:=by simp only[zf,show zl [102,111,114] = [102,111,114] by decide +kernel];rfl
  have s6:zf [100,105,114,101,99,116,111,114,121] qa qb m = [100,105,114,101,99,116,111,114,121]:=by simp only[zf,show zl [100,105,114,101,99,116,111,114,121] = [100,105,114,101,99,116,111,114,121] by decide +kernel];rfl
  rw[e1]
  simp only[List.map_cons,List.map_nil,s0,s1,s2,s3,s4,s5,s6]
  simp[Lib.join,List.intercalate,List.intersperse,Vc]
 ·have e1:Jy 32 (zO 7) = [[102,97,105,108,101,100],[116,111],[99,114,101,97,116,101],[104,97,114,100],[108,105,110,107],[66,58],[69]]:=by decide +kernel
  have s0:zf [102,97,105,108,101,100] qa qb m = [102,97,105,108,101,100]:=by simp only[zf,show zl [102,97,105,108,101,100] = [102,97,105,108,101,100] by decide +kernel];rfl
  have s1:zf [116,111] qa qb m = [116,111]:=by simp only[zf,show zl [116,111] = [116,111] by decide +kernel];rfl
  have s2:zf [99,114,101,97,116,101] qa qb m = [99,114,101,97,116,101]:=by simp only[zf,show zl [99,114,101,97,116,101] = [99,114,101,97,116,101] by decide +kernel];rfl
  have s3:zf [104,97,114,100] qa qb m = [104,97,114,100]:=by simp only[zf,show zl [104,97,114,100] = [104,97,114,100] by decide +kernel];rfl
  have s4:zf [108,105,110,107] qa qb m = [108,105,110,107]:=by simp only[zf,show zl [108,105,110,107] = [108,105,110,107] by decide +kernel];rfl
  have s5:zf [66,58] qa qb m=qb++[58]:=by simp only[zf,show zl [66,58] = [66] by decide +kernel];rfl
  have s6:zf [69] qa qb m=m++[]:=by simp only[zf,show zl [69] = [69] by decide +kernel];rfl
  rw[e1]
  simp only[List.map_cons,List.map_nil,s0,s1,s2,s3,s4,s5,s6]
  simp[Lib.join,List.intercalate,List.intersperse,Vc]
 ·have e1:Jy 32 (zO 8) = [[102,97,105,108,101,100],[116,111],[99,114,101,97,116,101],[115,121,109,98,111,108,105,99],[108,105,110,107],[66,58],[69]]:=by decide +kernel
  have s0:zf [102,97,105,108,101,100] qa qb m = [102,97,105,108,101,100]:=by simp only[zf,show zl [102,97,105,108,101,100] = [102,97,105,108,101,100] by decide +kernel];rfl
  have s1:zf [116,111] qa qb m = [116,111]:=by simp only[zf,show zl [116,111] = [116,111] by decide +kernel];rfl
  have s2:zf [99,114,101,97,116,101] qa qb m = [99,114,101,97,116,101]:=by simp only[zf,show zl [99,114,101,97,116,101] = [99,114,101,97,116,101] by decide +kernel];rfl
  have s3:zf [115,121,109,98,111,108,105,99] qa qb m = [115,121,109,98,111,108,105,99]:=by simp only[zf,show zl [115,121,109,98,111,108,105,99] = [115,121,109,98,111,108,105,99] by decide +kernel];rfl
  have s4:zf [108,105,110,107] qa qb m = [108,105,110,107]:=by simp only[zf,show zl [108,105,110,107] = [108,105,110,107] by decide +kernel];rfl
  have s5:zf [66,58] qa qb m=qb++[58]:=by simp only[zf,show zl [66,58] = [66] by decide +kernel];rfl
  have s6:zf [69] qa qb m=m++[]:=by simp only[zf,show zl [69] = [69] by decide +kernel];rfl
  rw[e1]
  simp only[List.map_cons,List.map_nil,s0,s1,s2,s3,s4,s5,s6]
  simp[Lib.join,List.intercalate,List.intersperse,Vc]
 ·have e1:Jy 32 (zO 9) = [[65],[97,110,100],[66],[97,114,101],[116,104,101],[115,97,109,101],[102,105,108,101]]:=by decide +kernel
  have s0:zf [65] qa qb m=qa++[]:=by simp only[zf,show zl [65] = [65] by decide +kernel];rfl
  have s1:zf [97,110,100] qa qb m = [97,110,100]:=by simp only[zf,show zl [97,110,100] = [97,110,100] by decide +kernel];rfl
  have s2:zf [66] qa qb m=qb++[]:=by simp only[zf,show zl [66] = [66] by decide +kernel];rfl
  have s3:zf [97,114,101] qa qb m = [97,114,101]:=by simp only[zf,show zl [97,114,101] = [97,114,101] by decide +kernel];rfl
  have s4:zf [116,104,101] qa qb m = [116,104,101]:=by simp only[zf,show zl [116,104,101] = [116,104,101] by decide +kernel];rfl
  have s5:zf [115,97,109,101] qa qb m = [115,97,109,101]:=by simp only[zf,show zl [115,97,109,101] = [115,97,109,101] by decide +kernel];rfl
  have s6:zf [102,105,108,101] qa qb m = [102,105,108,101]:=by simp only[zf,show zl [102,105,108,101] = [102,105,108,101] by decide +kernel];rfl
  rw[e1]
  simp only[List.map_cons,List.map_nil,s0,s1,s2,s3,s4,s5,s6]
  simp[Lib.join,List.intercalate,List.intersperse,Vc]
 ·have e1:Jy 32 (zO 10) = [[116,97,114,103,101,116],[65],[105,115],[110,111,116],[97],[100,105,114,101,99,116,111,114,121]]:=by decide +kernel
  have s0:zf [116,97,114,103,101,116] qa qb m = [116,97,114,103,101,116]:=by simp only[zf,show zl [116,97,114,103,101,116] = [116,97,114,103,101,116] by decide +kernel];rfl
  have s1:zf [65] qa qb m=qa++[]:=by simp only[zf,show zl [65] = [65] by decide +kernel];rfl
  have s2:zf [105,115] qa qb m = [105,115]:=by simp only[zf,show zl [105,115] = [105,115] by decide +kernel];rfl
  have s3:zf [110,111,116] qa qb m = [110,111,116]:=by simp only[zf,show zl [110,111,116] = [110,111,116] by decide +kernel];rfl
  have s4:zf [97] qa qb m = [97]:=by simp only[zf,show zl [97] = [97] by decide +kernel];rfl
  have s5:zf [100,105,114,101,99,116,111,114,121] qa qb m = [100,105,114,101,99,116,111,114,121]:=by simp only[zf,show zl [100,105,114,101,99,116,111,114,121] = [100,105,114,101,99,116,111,114,121] by decide +kernel];rfl
  rw[e1]
  simp only[List.map_cons,List.map_nil,s0,s1,s2,s3,s4,s5]
  simp[Lib.join,List.intercalate,List.intersperse,Vc]
 ·have e1:Jy 32 (zO 11) = [[99,97,110,110,111,116],[115,116,97,116],[65,58],[69]]:=by decide +kernel
  have s0:zf [99,97,110,110,111,116] qa qb m = [99,97,110,110,111,116]:=by simp only[zf,show zl [99,97,110,110,111,116] = [99,97,110,110,111,116] by decide +kernel];rfl
  have s1:zf [115,116,97,116] qa qb m = [115,116,97,116]:=by simp only[zf,show zl [115,116,97,116] = [115,116,97,116] by decide +kernel];rfl
  have s2:zf [65,58] qa qb m=qa++[58]:=by simp only[zf,show zl [65,58] = [65] by decide +kernel];rfl
  have s3:zf [69] qa qb m=m++[]:=by simp only[zf,show zl [69] = [69] by decide +kernel];rfl
  rw[e1]
  simp only[List.map_cons,List.map_nil,s0,s1,s2,s3]
  simp[Lib.join,List.intercalate,List.intersperse,Vc]
 ·have e1:Jy 32 (zO 12) = [[99,97,110,110,111,116],[111,118,101,114,119,114,105,116,101],[110,111,110,45,100,105,114,101,99,116,111,114,121],[66],[119,105,116,104],[100,105,114,101,99,116,111,114,121],[65]]:=by decide +kernel
  have s0:zf [99,97,110,110,111,116] qa qb m = [99,97,110,110,111,116]:=by simp only[zf,show zl [99,97,110,110,111,116] = [99,97,110,110,111,116] by decide +kernel];rfl
  have s1:zf [111,118,101,114,119,114,105,116,101] qa qb m = [111,118,101,114,119,114,105,116,101]:=by simp only[zf,show zl [111,118,101,114,119,114,105,116,101] = [111,118,101,114,119,114,105,116,101] by decide +kernel];rfl
  have s2:zf [110,111,110,45,100,105,114,101,99,116,111,114,121] qa qb m = [110,111,110,45,100,105,114,101,99,116,111,114,121]:=by simp only[zf,show zl [110,111,110,45,100,105,114,101,99,116,111,114,121] = [110,111,110,45,100,105,114,101,99,116,111,114,121] by decide +kernel];rfl
  have s3:zf [66] qa qb m=qb++[]:=by simp only[zf,show zl [66] = [66] by decide +kernel];rfl
  have s4:zf [119,105,116,104] qa qb m = [119,105,116,104]:=by simp only[zf,show zl [119,105,116,104] = [119,105,116,104] by decide +kernel];rfl
  have s5:zf [100,105,114,101,99,116,111,114,121] qa qb m = [100,105,114,101,99,116,111,114,121]:=by simp only[zf,show zl [100,105,114,101,99,116,111,114,121] = [100,105,114,101,99,116,111,114,121] by decide +kernel];rfl
  have s6:zf [65] qa qb m=qa++[]:=by simp only[zf,show zl [65] = [65] by decide +kernel];rfl
  rw[e1]
  simp only[List.map_cons,List.map_nil,s0,s1,s2,s3,s4,s5,s6]
  simp[Lib.join,List.intercalate,List.intersperse,Vc]
 ·have e1:Jy 32 (zO 13) = [[99,97,110,110,111,116],[111,118,101,114,119,114,105,116,101],[100,105,114,101,99,116,111,114,121],[66],[119,105,116,104],[110,111,110,45,100,105,114,101,99,116,111,114,121],[65]]:=by decide +kernel
  have s0:zf [99,97,110,110,111,116] qa qb m = [99,97,110,110,111,116]:=by simp only[zf,show zl [99,97,110,110,111,116] = [99,97,110,110,111,116] by decide +kernel];rfl
  have s1:zf [111,118,101,114,119,114,105,116,101] qa qb m = [111,118,101,114,119,114,105,116,101]:=by simp only[zf,show zl [111,118,101,114,119,114,105,116,101] = [111,118,101,114,119,114,105,116,101] by decide +kernel];rfl
  have s2:zf [100,105,114,101,99,116,111,114,121] qa qb m = [100,105,114,101,99,116,111,114,121]:=by simp only[zf,show zl [100,105,114,101,99,116,111,114,121] = [100,105,114,101,99,116,111,114,121] by decide +kernel];rfl
  have s3:zf [66] qa qb m=qb++[]:=by simp only[zf,show zl [66] = [66] by decide +kernel];rfl
  have s4:zf [119,105,116,104] qa qb m = [119,105,116,104]:=by simp only[zf,show zl [119,105,116,104] = [119,105,116,104] by decide +kernel];rfl
  have s5:zf [110,111,110,45,100,105,114,101,99,116,111,114,121] qa qb m = [110,111,110,45,100,105,114,101,99,116,111,114,121]:=by simp only[zf,show zl [110,111,110,45,100,105,114,101,99,116,111,114,121] = [110,111,110,45,100,105,114,101,99,116,111,114,121] by decide +kernel];rfl
  have s6:zf [65] qa qb m=qa++[]:=by simp only[zf,show zl [65] = [65] by decide +kernel];rfl
  rw[e1]
  simp only[List.map_cons,List.map_nil,s0,s1,s2,s3,s4,s5,s6]
  simp[Lib.join,List.intercalate,List.intersperse,Vc]
 ·have e1:Jy 32 (zO 14) = [[99,97,110,110,111,116],[109,111,118,101],[65],[116,111],[97],[115,117,98,100,105,114,101,99,116,111,114,121],[111,102],[105,116,115,101,108,102,44],[66]]:=by decide +kernel
  have s0:zf [99,97,110,110,111,116] qa qb m = [99,97,110,110,111,116]:=by simp only[zf,show zl [99,97,110,110,111,116] = [99,97,110,110,111,116] by decide +kernel];rfl
  have s1:zf [109,111,118,101] qa qb m = [109,111,118,101]:=by simp only[zf,show zl [109,111,118,101] = [109,111,118,101] by decide +kernel];rfl
  have s2:zf [65] qa qb m=qa++[]:=by simp only[zf,show zl [65] = [65] by decide +kernel];rfl
  have s3:zf [116,111] qa qb m = [116,111]:=by simp only[zf,show zl [116,111] = [116,111] by decide +kernel];rfl
  have s4:zf [97] qa qb m = [97]:=by simp only[zf,show zl [97] = [97] by decide +kernel];rfl
  have s5:zf [115,117,98,100,105,114,101,99,116,111,114,121] qa qb m = [115,117,98,100,105,114,101,99,116,111,114,121]:=by simp only[zf,show zl [115,117,98,100,105,114,101,99,116,111,114,121] = [115,117,98,100,105,114,101,99,116,111,114,121] by decide +kernel];rfl
  have s6:zf [111,102] qa qb m = [111,102]:=by simp only[zf,show zl [111,102] = [111,102] by decide +kernel];rfl
  have s7:zf [105,116,115,101,108,102,44] qa qb m = [105,116,115,101,108,102,44]:=by simp only[zf,show zl [105,116,115,101,108,102,44] = [105,116,115,101,108,102] by decide +kernel];rfl
  have s8:zf [66] qa qb m=qb++[]:=by simp only[zf,show zl [66] = [66] by decide +kernel];rfl
  rw[e1]
  simp only[List.map_cons,List.map_nil,s0,s1,s2,s3,s4,s5,s6,s7,s8]
  simp[Lib.join,List.intercalate,List.intersperse,Vc]
 ·have e1:Jy 32 (zO 15) = [[99,97,110,110,111,116],[109,111,118,101],[65],[116,111],[66,58],[69]]:=by decide +kernel
  have s0:zf [99,97,110,110,111,116] qa qb m = [99,97,110,110,111,116]:=by simp only[zf,show zl [99,97,110,110,111,116] = [99,97,110,110,111,116] by decide +kernel];rfl
  have s1:zf [109,111,118,101] qa qb m = [109,111,118,101]:=by simp only[zf,show zl [109,111,118,101] = [109,111,118,101] by decide +kernel];rfl
  have s2:zf [65] qa qb m=qa++[]:=by simp only[zf,show zl [65] = [65] by decide +kernel];rfl
  have s3:zf [116,111] qa qb m = [116,111]:=by simp only[zf,show zl [116,111] = [116,111] by decide +kernel];rfl
  have s4:zf [66,58] qa qb m=qb++[58]:=by simp only[zf,show zl [66,58] = [66] by decide +kernel];rfl
  have s5:zf [69] qa qb m=m++[]:=by simp only[zf,show zl [69] = [69] by decide +kernel];rfl
  rw[e1]
  simp only[List.map_cons,List.map_nil,s0,s1,s2,s3,s4,s5]
  simp[Lib.join,List.intercalate,List.intersperse,Vc]
 ·have e1:Jy 32 (zO 16) = [[45,114],[110,111,116],[115,112,101,99,105,102,105,101,100,59],[111,109,105,116,116,105,110,103],[100,105,114,101,99,116,111,114,121],[65]]:=by decide +kernel
  have s0:zf [45,114] qa qb m = [45,114]:=by simp only[zf,show zl [45,114] = [45,114] by decide +kernel];rfl
  have s1:zf [110,111,116] qa qb m = [110,111,116]:=by simp only[zf,show zl [110,111,116] = [110,111,116] by decide +kernel];rfl
  have s2:zf [115,112,101,99,105,102,105,101,100,59] qa qb m = [115,112,101,99,105,102,105,101,100,59]:=by simp only[zf,show zl [115,112,101,99,105,102,105,101,100,59] = [115,112,101,99,105,102,105,101,100,59] by decide +kernel];rfl
  have s3:zf [111,109,105,116,116,105,110,103] qa qb m = [111,109,105,116,116,105,110,103]:=by simp only[zf,show zl [111,109,105,116,116,105,110,103] = [111,109,105,116,116,105,110,103] by decide +kernel];rfl
  have s4:zf [100,105,114,101,99,116,111,114,121] qa qb m = [100,105,114,101,99,116,111,114,121]:=by simp only[zf,show zl [100,105,114,101,99,116,111,114,121] = [100,105,114,101,99,116,111,114,121] by decide +kernel];rfl
  have s5:zf [65] qa qb m=qa++[]:=by simp only[zf,show zl [65] = [65] by decide +kernel];rfl
  rw[e1]
  simp only[List.map_cons,List.map_nil,s0,s1,s2,s3,s4,s5]
  simp[Lib.join,List.intercalate,List.intersperse,Vc]
 ·have e1:Jy 32 (zO 17) = [[99,97,110,110,111,116],[99,114,101,97,116,101],[114,101,103,117,108,97,114],[102,105,108,101],[66,58],[69]]:=by decide +kernel
  have s0:zf [99,97,110,110,111,116] qa qb m = [99,97,110,110,111,116]:=by simp only[zf,show zl [99,97,110,110,111,116] = [99,97,110,110,111,116] by decide +kernel];rfl
  have s1:zf [99,114,101,97,116,101] qa qb m = [99,114,101,97,116,101]:=by simp only[zf,show zl [99,114,101,97,116,101] = [99,114,101,97,116,101] by decide +kernel];rfl
  have s2:zf [114,101,103,117,108,97,114] qa qb m = [114,101,103,117,108,97,114]:=by simp only[zf,show zl [114,101,103,117,108,97,114] = [114,101,103,117,108,97,114] by decide +kernel];rfl
  have s3:zf [102,105,108,101] qa qb m = [102,105,108,101]:=by simp only[zf,show zl [102,105,108,101] = [102,105,108,101] by decide +kernel];rfl
  have s4:zf [66,58] qa qb m=qb++[58]:=by simp only[zf,show zl [66,58] = [66] by decide +kernel];rfl
  have s5:zf [69] qa qb m=m++[]:=by simp only[zf,show zl [69] = [69] by decide +kernel];rfl
  rw[e1]
  simp only[List.map_cons,List.map_nil,s0,s1,s2,s3,s4,s5]
  simp[Lib.join,List.intercalate,List.intersperse,Vc]
 ·have e1:Jy 32 (zO 18) = [[99,97,110,110,111,116],[99,114,101,97,116,101],[115,121,109,98,111,108,105,99],[108,105,110,107],[66,58],[69]]:=by decide +kernel
  have s0:zf [99,97,110,110,111,116] qa qb m = [99,97,110,110,111,116]:=by simp only[zf,show zl [99,97,110,110,111,116] = [99,97,110,110,111,116] by decide +kernel];rfl
  have s1:zf [99,114,101,97,116,101] qa qb m = [99,114,101,97,116,101]:=by simp only[zf,show zl [99,114,101,97,116,101] = [99,114,101,97,116,101] by decide +kernel];rfl
  have s2:zf [115,121,109,98,111,108,105,99] qa qb m = [115,121,109,98,111,108,105,99]:=by simp only[zf,show zl [115,121,109,98,111,108,105,99] = [115,121,109,98,111,108,105,99] by decide +kernel];rfl
  have s3:zf [108,105,110,107] qa qb m = [108,105,110,107]:=by simp only[zf,show zl [108,105,110,107] = [108,105,110,107] by decide +kernel];rfl
  have s4:zf [66,58] qa qb m=qb++[58]:=by simp only[zf,show zl [66,58] = [66] by decide +kernel];rfl
  have s5:zf [69] qa qb m=m++[]:=by simp only[zf,show zl [69] = [69] by decide +kernel];rfl
  rw[e1]
  simp only[List.map_cons,List.map_nil,s0,s1,s2,s3,s4,s5]
  simp[Lib.join,List.intercalate,List.intersperse,Vc]
 ·have e1:Jy 32 (zO 19) = [[99,97,110,110,111,116],[99,111,112,121],[97],[100,105,114,101,99,116,111,114,121,44],[65,44],[105,110,116,111],[105,116,115,101,108,102,44],[66]]:=by decide +kernel
  have s0:zf [99,97,110,110,111,116] qa qb m = [99,97,110,110,111,116]:=by simp only[zf,show zl [99,97,110,110,111,116] = [99,97,110,110,111,116] by decide +kernel];rfl
  have s1:zf [99,111,112,121] qa qb m = [99,111,112,121]:=by simp only[zf,show zl [99,111,112,121] = [99,111,112,121] by decide +kernel];rfl
  have s2:zf [97] qa qb m = [97]:=by simp only[zf,show zl [97] = [97] by decide +kernel];rfl
  have s3:zf [100,105,114,101,99,116,111,114,121,44] qa qb m = [100,105,114,101,99,116,111,114,121,44]:=by simp only[zf,show zl [100,105,114,101,99,116,111,114,121,44] = [100,105,114,101,99,116,111,114,121] by decide +kernel];rfl
  have s4:zf [65,44] qa qb m=qa++[44]:=by simp only[zf,show zl [65,44] = [65] by decide +kernel];rfl
  have s5:zf [105,110,116,111] qa qb m = [105,110,116,111]:=by simp only[zf,show zl [105,110,116,111] = [105,110,116,111] by decide +kernel];rfl
  have s6:zf [105,116,115,101,108,102,44] qa qb m = [105,116,115,101,108,102,44]:=by simp only[zf,show zl [105,116,115,101,108,102,44] = [105,116,115,101,108,102] by decide +kernel];rfl
  have s7:zf [66] qa qb m=qb++[]:=by simp only[zf,show zl [66] = [66] by decide +kernel];rfl
  rw[e1]
  simp only[List.map_cons,List.map_nil,s0,s1,s2,s3,s4,s5,s6,s7]
  simp[Lib.join,List.intercalate,List.intersperse,Vc]
 ·have e1:Jy 32 (zO 20) = [[110,111,116],[119,114,105,116,105,110,103],[116,104,114,111,117,103,104],[100,97,110,103,108,105,110,103],[115,121,109,108,105,110,107],[66]]:=by decide +kernel
  have s0:zf [110,111,116] qa qb m = [110,111,116]:=by simp only[zf,show zl [110,111,116] = [110,111,116] by decide +kernel];rfl
  have s1:zf [119,114,105,116,105,110,103] qa qb m = [119,114,105,116,105,110,103]:=by simp only[zf,show zl [119,114,105,116,105,110,103] = [119,114,105,116,105,110,103] by decide +kernel];rfl
  have s2:zf [116,104,114,111,117,103,104] qa qb m = [116,104,114,111,117,103,104]:=by simp only[zf,show zl [116,104,114,111,117,103,104] = [116,104,114,111,117,103,104] by decide +kernel];rfl
  have s3:zf [100,97,110,103,108,105,110,103] qa qb m = [100,97,110,103,108,105,110,103]:=by simp only[zf,show zl [100,97,110,103,108,105,110,103] = [100,97,110,103,108,105,110,103] by decide +kernel];rfl
  have s4:zf [115,121,109,108,105,110,107] qa qb m = [115,121,109,108,105,110,107]:=by simp only[zf,show zl [115,121,109,108,105,110,107] = [115,121,109,108,105,110,107] by decide +kernel];rfl
  have s5:zf [66] qa qb m=qb++[]:=by simp only[zf,show zl [66] = [66] by decide +kernel];rfl
  rw[e1]
  simp only[List.map_cons,List.map_nil,s0,s1,s2,s3,s4,s5]
  simp[Lib.join,List.intercalate,List.intersperse,Vc]
 ·have e1:Jy 32 (zO 21) = [[101,114,114,111,114],[119,114,105,116,105,110,103],[66,58],[69]]:=by decide +kernel
  have s0:zf [101,114,114,111,114] qa qb m = [101,114,114,111,114]:=by simp only[zf,show zl [101,114,114,111,114] = [101,114,114,111,114] by decide +kernel];rfl
  have s1:zf [119,114,105,116,105,110,103] qa qb m = [119,114,105,116,105,110,103]:=by simp only[zf,show zl [119,114,105,116,105,110,103] = [119,114,105,116,105,110,103] by decide +kernel];rfl
  have s2:zf [66,58] qa qb m=qb++[58]:=by simp only[zf,show zl [66,58] = [66] by decide +kernel];rfl
  have s3:zf [69] qa qb m=m++[]:=by simp only[zf,show zl [69] = [69] by decide +kernel];rfl
  rw[e1]
  simp only[List.map_cons,List.map_nil,s0,s1,s2,s3]
  simp[Lib.join,List.intercalate,List.intersperse,Vc]
 ·have e1:Jy 32 (zO 22) = [[99,97,110,110,111,116],[99,114,101,97,116,101],[100,105,114,101,99,116,111,114,121],[66,58],[69]]:=by decide +kernel
  have s0:zf [99,97,110,110,111,116] qa qb m = [99,97,110,110,111,116]:=by simp only[zf,show zl [99,97,110,110,111,116] = [99,97,110,110,111,116] by decide +kernel];rfl
  have s1:zf [99,114,101,97,116,101] qa qb m = [99,114,101,97,116,101]:=by simp only[zf,show zl [99,114,101,97,116,101] = [99,114,101,97,116,101] by decide +kernel];rfl
  have s2:zf [100,105,114,101,99,116,111,114,121] qa qb m = [100,105,114,101,99,116,111,114,121]:=by simp only[zf,show zl [100,105,114,101,99,116,111,114,121] = [100,105,114,101,99,116,111,114,121] by decide +kernel];rfl
  have s3:zf [66,58] qa qb m=qb++[58]:=by simp only[zf,show zl [66,58] = [66] by decide +kernel];rfl
  have s4:zf [69] qa qb m=m++[]:=by simp only[zf,show zl [69] = [69] by decide +kernel];rfl
  rw[e1]
  simp only[List.map_cons,List.map_nil,s0,s1,s2,s3,s4]
  simp[Lib.join,List.intercalate,List.intersperse,Vc]
theorem N4 (f:List UInt8->List UInt8) (n:Nat):∀ xs:List (List UInt8),(∀ x∈xs,(f x).length<=n)->((xs.map f).map fun x=>x.length+1).sum<=xs.length*(n+1)
 | [],_=>by simp
 | x :: r,h=>by
  have ih:=N4 f n r fun y hy=>h y (List.mem_cons_of_mem _ hy)
  have:=h x List.mem_cons_self
  simp only[List.map_cons,List.sum_cons,List.length_cons,Nat.add_mul]
  omega
theorem uR (xs:List (List UInt8)) (sep:List UInt8) (n:Nat) (hs:sep.length<=1) (h:(xs.map fun x=>x.length+1).sum<=n):(Lib.join xs sep).length<=n:=by
 have key:∀ xs:List (List UInt8),(Lib.join xs sep).length<=(xs.map fun x=>x.length+1).sum:=by
  intro xs
  match xs with
  | []=>simp[Lib.join]
  | [x]=>simp[Lib.join_one]
  | x :: y :: r =>
   have ih:∀ (zs:List (List UInt8)) (z:List UInt8),(Lib.join (z :: zs) sep).length<=((z :: zs).map fun x=>x.length+1).sum:=by
    intro zs
    induction zs with
    | nil=>intro z;simp[Lib.join_one]
    | cons u t iht =>
     intro z
     rw[JO]
     have:=iht u
     simp only[List.length_append,List.map_cons,List.sum_cons]at this ⊢
     omega
   exact ih (y :: r) x
 exact Nat.le_trans (key xs) h
def UV (k w:Int) (a b:List UInt8) (e:Int):List UInt8:=
 if UE k = [] then [] else if zO w = [] then [] else UE k++[58,32]++Vc w (ju a) (ju b) (M4 e)
theorem zcH (k:Int):(UE k).length<=10:=by
 have key:∀ (c:Prop) [Decidable c] (x y:List UInt8),x.length<=10->y.length<=10->(if c then x else y).length<=10:=fun c _ x y hx hy=>by
  by_cases h:c
  ·rw[if_pos h];exact hx
  ·rw[if_neg h];exact hy
 unfold UE
 repeat' (first | decide | refine key _ _ _ (by decide) ?_)
theorem zfu (k w:Int) (a b:List UInt8) (e:Int) (ha:a.length<=1000) (hb:b.length<=1000):Fun Tryz.prog G2 60 [.sc (.int .i64 k),.sc (.int .i64 w),.str a,.str b,.sc (.int .i64 e)] (.str (UV k w a b e)) 0:=by
 have h1:=GO k
 have h2:=uU w
 have hnl:=zcH k
 by_cases hn:UE k = []
 ·rw[hn]at h1
  refine Fun.of (fun _=>[]) Tryz.func60 rfl (zp rfl) (by kernel_rfl) ?_;dsimp only[Tryz.f60]
  push_cast -dsimp
  refine cl (h1) ?_;push_cast -dsimp
  refine cl (h2) ?_;push_cast -dsimp
  exact ⟨[],rfl,rfl,by push_cast -dsimp [zb,za,CLe,ze]<;>simp[UV,hn]⟩
 by_cases hp:zO w = []
 ·rw[hp]at h2
  refine Fun.of (fun _=>[]) Tryz.func60 rfl (zp rfl) (by kernel_rfl) ?_;dsimp only[Tryz.f60]
  push_cast -dsimp
  refine cl (h1) ?_;push_cast -dsimp
  refine cl (h2) ?_;push_cast -dsimp [hn]
  exact ⟨[],rfl,rfl,by push_cast -dsimp [zb,za,CLe,ze]<;>simp[UV,hn,hp]⟩
 obtain ⟨hws,hpl⟩:(∀ x∈Jy 32 (zO w),x≠[]/\x.length<=100)/\(zO w).length<=100:=(GV w).resolve_left hp
 have hin:1<=w/\w<=22:=Classical.byContradiction fun h=>hp (Uh w h)
 have hpw:=hp
 have hsay:=zgJ w (ju a) (ju b) (M4 e) hin
 have hsl:=MM 32 (zO w)
 have hsum:=N4 (fun x=>zf x (ju a) (ju b) (M4 e)) 5100 (Jy 32 (zO w)) fun x hx=>by
  have:=zcX x a b e ha hb
  have:=(hws x hx).2
  omega
 have hjl:=uR ((Jy 32 (zO w)).map fun x=>zf x (ju a) (ju b) (M4 e)) [32] 600000 (by decide) (by
  have:(Jy 32 (zO w)).length*(5100+1)<=101*5101:=Nat.mul_le_mul_right _ (by omega)
  omega)
 have hit:=Nb 32 (zO w) (by omega)
 generalize zO w=P at h2 hp hws hpl hsay hsl hsum hjl hit
 rw[hsay]at hjl
 refine Fun.of (fun i=>if i=7 then [false,false,false,false,false,false,false,true,true] else []) Tryz.func60 rfl (zp rfl) (by kernel_rfl) ?_;dsimp only[Tryz.f60]
 push_cast -dsimp
 refine cl (h1) ?_;push_cast -dsimp
 refine cl (h2) ?_;push_cast -dsimp [hn,hp]
 refine MY [] [] ((HS 32 P).glob0) rfl (by simp) (by simp) (fun i hi=>by cases hi) (by push_cast -dsimp) rfl ?_
 push_cast -dsimp
 refine range (qA (Jy 32 P)) (fun _=>false) 4 (fun j=>⟨[],[[.str a],[.str b],[.sc (.int .i64 e)],[.own 0 9 1 (qA (((Jy 32 P).take j).map fun x=>zf x (ju a) (ju b) (M4 e)))]],1,0⟩) hit.glob0 (by push_cast -dsimp) (by push_cast -dsimp) (by push_cast -dsimp) (Nat.zero_le _) (by push_cast -dsimp) (fun it h=>?_) (fun j _=>rfl) ?_ (fun j it hj hsf=>?_) (fun hsf=>?_)
 ·obtain ⟨x,_,rfl⟩:=List.mem_map.1 h;rfl
 ·exact zS.mk [.inr (9,1)] rfl rfl (Nat.le_refl _) rfl (by push_cast -dsimp [zb,za,CLe,ze]) (by push_cast -dsimp [zb,za,CLe,ze])
 ·obtain ⟨x,hx,rfl⟩:=HG hj
  have hjl2:j<(Jy 32 P).length:=(List.getElem?_eq_some_iff.1 hx).1
  have hxw:=hws x (List.mem_of_getElem? hx)
  have hs1:=zf4 x a b e hxw.1 (by omega) ha hb
  push_cast -dsimp
  refine cl (hs1) ?_;push_cast -dsimp
  (try simp only[lS]);repeat refine And.intro (by omega) ?_
  refine zS.mk [.inl 0] rfl rfl (Nat.le_refl _) rfl (by push_cast -dsimp [zb,za,CLe,ze]) ?_
  push_cast -dsimp [zb,za,CLe,ze]
  rw[List.take_add_one,hx]
  simp
 ·have htk:(Jy 32 P).take (Jy 32 P).length=Jy 32 P:=List.take_length
  have j1:=((Hj ((Jy 32 P).map fun x=>zf x (ju a) (ju b) (M4 e)) [32] (by rw[List.length_map];omega) (by rw[hsay];omega)).res (congrArg C.str hsay)).glob0 (G':=G2)
  have j2:=((zfs [UE k,Vc w (ju a) (ju b) (M4 e)] (by simp) (by rw[JO,Lib.join_one];simp only[List.length_append,List.length_cons,List.length_nil];omega)).res (congrArg C.str (show _=UV k w a b e by rw[JO,Lib.join_one,UV,if_neg hn,if_neg hpw]))).glob0 (G':=G2)
  push_cast -dsimp [htk]
  refine cl (j1) ?_;push_cast -dsimp
  refine cl (j2) ?_;push_cast -dsimp
  exact ⟨[],rfl,rfl,by push_cast -dsimp [zb,za,CLe,ze]⟩
end
section
open CA CB
open Go.RowKit QuotePlain
end
section
open CA CB
open Go.RowKit
def GD:zk:=fun g=>if g=0 then G1 g else G2 g
theorem zpx (g:Nat) (cs:List C) (h:G1 g=some cs):GD g=some cs:=by
 unfold GD
 by_cases hg:g=0
 ·rw[if_pos hg];exact h
 ·unfold G1 at h
  rw[if_neg hg]at h
  cases h
theorem zqf (g:Nat) (cs:List C) (h:G2 g=some cs):GD g=some cs:=by
 unfold GD
 by_cases hg:g=0
 ·subst hg
  have q:G2 0=none:=rfl
  rw[q]at h;cases h
 ·rw[if_neg hg];exact h
theorem Fun.gd1 {f:FuncId} {args:List C} {r:C} {n:Nat} (h:Fun Tryz.prog G1 f args r n):Fun Tryz.prog GD f args r n:=h.glob zpx
theorem Fun.gd2 {f:FuncId} {args:List C} {r:C} {n:Nat} (h:Fun Tryz.prog G2 f args r n):Fun Tryz.prog GD f args r n:=h.glob zqf
abbrev znz (d:jG) (ops diags:C):C:=.agg [.sc (.int .i64 d.w.fs.maxI),.sc (.int .i64 d.w.fs.maxB),.sc (.int .i64 d.w.fs.next),.sl 6 (zt d.w.fs.xs),.sl 4 (zJ d.w.kept),.sl 6 (zt d.w.pool),ops,diags,.sc (.int .i64 d.status),.sc (.int .i64 d.slot)]
structure Uf (d:jG):Prop where
 wi:Zh d.w
 ws:vI d.w
 ops:d.ops.length<=80000
 diags:d.diags.length<=80000
 slot:0<=d.slot/\d.slot<=4000000000000000000
theorem ziG (d:jG) (hd:Uf d) (o:OpV) (ho:short o) (hl:o.d.length<=10000) (hne:(X0 d o).2≠0) (oc dc:C) (hoc:oc = .sl 5 (d.ops.map opL)) (hdc:dc = .sl 1 (qA d.diags)):Fun Tryz.prog GD 25 [znz d oc dc,.agg (opL o)] (.tup [znz d oc dc,.sc (.int .i64 (X0 d o).2)]) 0:=by
 subst hoc hdc
 obtain ⟨k,s,a,b,t⟩:=o
 have hsl:=ZK (G:=GD) ⟨k,0,a,b,t⟩
 have hb1:=hd.slot.1
 have hb2:=hd.slot.2
 by_cases hk:k=3∨k=7
 ·have e:XS d ⟨k,s,a,b,t⟩=⟨k,d.slot+1,a,b,t⟩:=by unfold XS;rw[if_pos hk]
  rw[decide_eq_true hk]at hsl
  have hk7:(7<k)=False:=eq_false (by omega)
  have hdo:=(yl d.w hd.wi hd.ws ⟨k,d.slot+1,a,b,t⟩ ho hl (show k<=7 by omega)).gd1
  have ea:X0 d ⟨k,s,a,b,t⟩=if (doV d.w ⟨k,d.slot+1,a,b,t⟩).2≠0 then (d,(doV d.w ⟨k,d.slot+1,a,b,t⟩).2) else (⟨(doV d.w ⟨k,d.slot+1,a,b,t⟩).1,d.ops++[⟨k,d.slot+1,a,b,t⟩],d.diags,d.status,if 0<d.slot+1 then d.slot+1 else d.slot⟩,0):=by
   unfold X0;rw[if_neg (show ¬7<k by omega),e]
  by_cases hz:(doV d.w ⟨k,d.slot+1,a,b,t⟩).2=0
  ·rw[ea,if_neg (fun h=>h hz)]at hne;exact absurd rfl hne
  ·rw[ea,if_pos hz]
   have hz':=eq_false hz
   unfold opL at hsl hdo ⊢
   refine Fun.of (fun _=>[]) Tryz.func25 rfl (zp rfl) (by kernel_rfl) ?_;dsimp only[Tryz.f25]
   push_cast -dsimp
   refine cl (hsl) ?_;push_cast -dsimp
   (try simp only[lS]);repeat refine And.intro (by omega) ?_
   push_cast -dsimp [hk7]
   refine cl (hdo) ?_;push_cast -dsimp [hz']
   exact ⟨[],rfl,rfl,by push_cast -dsimp [zb,za,CLe,ze]⟩
 ·have e:XS d ⟨k,s,a,b,t⟩=⟨k,0,a,b,t⟩:=by unfold XS;rw[if_neg hk]
  rw[decide_eq_false hk]at hsl
  by_cases hk7:7<k
  ·have ea:X0 d ⟨k,s,a,b,t⟩=(d,12):=by unfold X0;rw[if_pos hk7]
   rw[ea]
   have hk7':=eq_true hk7
   unfold opL at hsl ⊢
   refine Fun.of (fun _=>[]) Tryz.func25 rfl (zp rfl) (by kernel_rfl) ?_;dsimp only[Tryz.f25]
   push_cast -dsimp
   refine cl (hsl) ?_;push_cast -dsimp [hk7']
   exact ⟨[],rfl,rfl,by push_cast -dsimp [zb,za,CLe,ze]⟩
  ·have hdo:=(yl d.w hd.wi hd.ws ⟨k,0,a,b,t⟩ ho hl (show k<=7 by omega)).gd1
   have ea:X0 d ⟨k,s,a,b,t⟩=if (doV d.w ⟨k,0,a,b,t⟩).2≠0 then (d,(doV d.w ⟨k,0,a,b,t⟩).2) else (⟨(doV d.w ⟨k,0,a,b,t⟩).1,d.ops++[⟨k,0,a,b,t⟩],d.diags,d.status,if (0:Int)<0 then 0 else d.slot⟩,0):=by
    unfold X0;rw[if_neg hk7,e]
   by_cases hz:(doV d.w ⟨k,0,a,b,t⟩).2=0
   ·rw[ea,if_neg (fun h=>h hz)]at hne;exact absurd rfl hne
   ·rw[ea,if_pos hz]
    have hz':=eq_false hz
    have hk7':=eq_false hk7
    unfold opL at hsl hdo ⊢
    refine Fun.of (fun _=>[]) Tryz.func25 rfl (zp rfl) (by kernel_rfl) ?_;dsimp only[Tryz.f25]
    push_cast -dsimp
    refine cl (hsl) ?_;push_cast -dsimp [hk7']
    refine cl (hdo) ?_;push_cast -dsimp [hz']
    exact ⟨[],rfl,rfl,by push_cast -dsimp [zb,za,CLe,ze]⟩
theorem yv (d:jG) (hd:Uf d) (o:OpV) (ho:short o) (hl:o.d.length<=10000) (hne:(X0 d o).2=0):Fun Tryz.prog GD 25 [znX d,.agg (opL o)] (.tup [znz (X0 d o).1 (.own 0 63 5 ((X0 d o).1.ops.map opL)) (.sl 1 (qA (X0 d o).1.diags)),.sc (.int .i64 0)]) 1:=by
 obtain ⟨k,s,a,b,t⟩:=o
 have hsl:=ZK (G:=GD) ⟨k,0,a,b,t⟩
 have hb1:=hd.slot.1
 have hb2:=hd.slot.2
 have hopl:(d.ops.map opL).length=d.ops.length:=List.length_map ..
 have hol:=hd.ops
 have hka:∀ r∈d.ops.map opL,r.length=5:=fun r hr=>by obtain ⟨x,_,rfl⟩:=List.mem_map.1 hr;rfl
 have hsa:qU (d.ops.map opL):=fun r hr=>by obtain ⟨x,_,rfl⟩:=List.mem_map.1 hr;rfl
 have hkb:∀ v:Int,∀ r∈[opL ⟨k,v,a,b,t⟩],r.length=5:=fun v r hr=>by rw[List.mem_singleton.1 hr];rfl
 have hsb:∀ v:Int,qU [opL ⟨k,v,a,b,t⟩]:=fun v r hr=>by rw[List.mem_singleton.1 hr];rfl
 have hcc:=fun v:Int=>xi (G:=GD) (d.ops.map opL) [opL ⟨k,v,a,b,t⟩] hka (hkb v) hsa (hsb v) (by omega) (by simp) (by simp)
 by_cases hk:k=3∨k=7
 ·have e:XS d ⟨k,s,a,b,t⟩=⟨k,d.slot+1,a,b,t⟩:=by unfold XS;rw[if_pos hk]
  rw[decide_eq_true hk]at hsl
  have hk7:(7<k)=False:=eq_false (by omega)
  have hdo:=(yl d.w hd.wi hd.ws ⟨k,d.slot+1,a,b,t⟩ ho hl (show k<=7 by omega)).gd1
  have ea:X0 d ⟨k,s,a,b,t⟩=if (doV d.w ⟨k,d.slot+1,a,b,t⟩).2≠0 then (d,(doV d.w ⟨k,d.slot+1,a,b,t⟩).2) else (⟨(doV d.w ⟨k,d.slot+1,a,b,t⟩).1,d.ops++[⟨k,d.slot+1,a,b,t⟩],d.diags,d.status,if 0<d.slot+1 then d.slot+1 else d.slot⟩,0):=by
   unfold X0;rw[if_neg (show ¬7<k by omega),e]
  by_cases hz:(doV d.w ⟨k,d.slot+1,a,b,t⟩).2=0
  ·rw[ea,if_neg (fun h=>h hz),if_pos (show 0<d.slot+1 by omega)]
   rw[hz]at hdo
   have hmx:(if d.slot+1>d.slot then d.slot+1 else d.slot)=d.slot+1:=if_pos (by omega)
   have hc:=hcc (d.slot+1)
   unfold opL at hsl hdo hc ⊢
   refine Fun.of (fun _=>[]) Tryz.func25 rfl (zp rfl) (by kernel_rfl) ?_;dsimp only[Tryz.f25]
   push_cast -dsimp
   refine cl (hsl) ?_;push_cast -dsimp
   (try simp only[lS]);repeat refine And.intro (by omega) ?_
   push_cast -dsimp [hk7]
   refine cl (hdo) ?_;push_cast -dsimp
   refine cl (hc) ?_;push_cast -dsimp [hmx]
   exact ⟨[.inl 2],rfl,rfl,by push_cast -dsimp [zb,za,CLe,ze,List.map_append]⟩
  ·rw[ea,if_pos hz]at hne;exact absurd hne hz
 ·have e:XS d ⟨k,s,a,b,t⟩=⟨k,0,a,b,t⟩:=by unfold XS;rw[if_neg hk]
  rw[decide_eq_false hk]at hsl
  by_cases hk7:7<k
  ·have ea:X0 d ⟨k,s,a,b,t⟩=(d,12):=by unfold X0;rw[if_pos hk7]
   rw[ea]at hne;exact absurd hne (show ¬(12:Int)=0 by decide)
  ·have hdo:=(yl d.w hd.wi hd.ws ⟨k,0,a,b,t⟩ ho hl (show k<=7 by omega)).gd1
   have ea:X0 d ⟨k,s,a,b,t⟩=if (doV d.w ⟨k,0,a,b,t⟩).2≠0 then (d,(doV d.w ⟨k,0,a,b,t⟩).2) else (⟨(doV d.w ⟨k,0,a,b,t⟩).1,d.ops++[⟨k,0,a,b,t⟩],d.diags,d.status,if (0:Int)<0 then 0 else d.slot⟩,0):=by
    unfold X0;rw[if_neg hk7,e]
   by_cases hz:(doV d.w ⟨k,0,a,b,t⟩).2=0
   ·rw[ea,if_neg (fun h=>h hz),if_neg (show ¬(0:Int)<0 by omega)]
    rw[hz]at hdo
    have hmx:(if 0>d.slot then 0 else d.slot)=d.slot:=if_neg (by omega)
    have hk7':=eq_false hk7
    have hc:=hcc 0
    unfold opL at hsl hdo hc ⊢
    refine Fun.of (fun _=>[]) Tryz.func25 rfl (zp rfl) (by kernel_rfl) ?_;dsimp only[Tryz.f25]
    push_cast -dsimp
    refine cl (hsl) ?_;push_cast -dsimp [hk7']
    refine cl (hdo) ?_;push_cast -dsimp
    refine cl (hc) ?_;push_cast -dsimp [hmx]
    exact ⟨[.inl 2],rfl,rfl,by push_cast -dsimp [zb,za,CLe,ze,List.map_append]⟩
   ·rw[ea,if_pos hz]at hne;exact absurd hne hz
def HH (d:jG) (x:List UInt8):jG:={ d with diags:=d.diags++[x],status:=1 }
theorem zbQ (d:jG) (hd:d.diags.length<=80000) (k w:Int) (a b:List UInt8) (e:Int) (ha:a.length<=1000) (hb:b.length<=1000) :
  Fun Tryz.prog GD 26 [znX d,.sc (.int .i64 k),.sc (.int .i64 w),.str a,.str b,.sc (.int .i64 e)] (znz (HH d (UV k w a b e)) (.sl 5 (d.ops.map opL)) (.own 0 9 1 (qA (HH d (UV k w a b e)).diags))) 1:=by
 have ht:=(zfu k w a b e ha hb).gd2
 generalize UV k w a b e=x at ht ⊢
 have hsl:(qA d.diags).length=d.diags.length:=List.length_map ..
 have hc:=My (G:=GD) (qA d.diags) [[.str x]] (fun r hr=>by obtain ⟨x,_,rfl⟩:=List.mem_map.1 hr;rfl) (fun r hr=>by rw[List.mem_singleton.1 hr];rfl) (fun r hr=>by obtain ⟨x,_,rfl⟩:=List.mem_map.1 hr;rfl) (fun r hr=>by rw[List.mem_singleton.1 hr];rfl) (by omega) (by simp) (by simp)
 refine Fun.of (fun i=>if i=1 then [false,false,false,false,false,false,false,false,false,false,false,false,false,false,true] else []) Tryz.func26 rfl (zp rfl) (by kernel_rfl) ?_;dsimp only[Tryz.f26]
 push_cast -dsimp
 refine cl (ht) ?_;push_cast -dsimp
 refine cl (hc) ?_;push_cast -dsimp
 have hm:qA (HH d x).diags=qA d.diags++[[.str x]]:=List.map_append
 rw[hm]
 exact ⟨[.inl 2],rfl,rfl,by push_cast -dsimp [zb,za,CLe,ze,HH]⟩
end
section
open CA CB
open Go.RowKit
end
section
open CA CB
open Go.RowKit
end
section
open CA CB
open Go.RowKit
end
section
open CA CB
open Go.RowKit
structure zhv where
 path:List UInt8
 ino:Int
deriving DecidableEq,Inhabited
abbrev zpn (s:zhv):List C:=[.str s.path,.sc (.int .i64 s.ino)]
abbrev MO (l:List zhv):List (List C):=l.map zpn
def jU (p n:List UInt8):List UInt8:=if p = [47] then p++n else p++[47]++n
def JI (xs:List zw):Nat->Int->List UInt8->List zhv
 | 0,_,_=>[]
 | m+1,ino,p=>if zF ino xs then ⟨p,ino⟩ :: (zg ino xs).es.flatMap (fun e=>JI xs m e.ino (jU p e.name)) else []
theorem zbU (p n:List UInt8):(jU p n).length<=p.length+1+n.length:=by
 unfold jU
 split<;>simp<;>omega
theorem zk0 (xs:List zhv) (i:Nat) (h:i<xs.length):(MO xs)[i]?=some (zpn xs[i]):=by simp[List.getElem?_map,List.getElem?_eq_getElem h]
theorem zef {α β:Type} {g:α->List β} {l:List α} {k:Nat} (h:k<l.length):(l.take (k+1)).flatMap g=(l.take k).flatMap g++g l[k]:=by
 rw[List.take_add_one,List.getElem?_eq_getElem h,List.flatMap_append]
 simp
theorem Gz {α β:Type} {g:α->List β} {l:List α} (k:Nat):((l.take k).flatMap g).length<=(l.flatMap g).length:=by
 have h:l.flatMap g=(l.take k).flatMap g++(l.drop k).flatMap g:=by rw[←List.flatMap_append,List.take_append_drop]
 rw[h,List.length_append];omega
section
variable {G:zk}
theorem zbK (p n:List UInt8) (h:p.length+n.length<=1000000000):Fun Tryz.prog G 161 [.str p,.str n] (.str (jU p n)) 0:=by
 refine Fun.of (fun _=>[]) Tryz.func161 rfl (zp rfl) (by kernel_rfl) ?_;dsimp only[Tryz.f161]
 by_cases hp:p = [47]
 ·subst hp
  have hu:jU [47] n = [47]++n:=by unfold jU;rw[if_pos rfl]
  push_cast -dsimp
  (try simp only[lS]);repeat refine And.intro (by omega) ?_
  exact ⟨[],rfl,rfl,by push_cast -dsimp [zb,za,CLe,ze,hu]⟩
 ·have hu:jU p n=p++[47]++n:=by unfold jU;rw[if_neg hp]
  push_cast -dsimp [hp]
  (try simp only[lS]);repeat refine And.intro (by omega) ?_
  exact ⟨[],rfl,rfl,by push_cast -dsimp [zb,za,CLe,ze,hu]⟩
theorem Ny (f:FsV) (hf:U8 f.xs):∀ (m:Nat) (ino:Int) (p:List UInt8),m<=1000->p.length+m*301<=1000000->(JI f.xs m ino p).length<=1000000->Fun Tryz.prog G 123 [.agg (fsC f),.sc (.int .i64 ino),.str p,.sc (.int .i64 ((m:Int)-1))] (.own 0 127 2 (MO (JI f.xs m ino p))) 1
 | 0,ino,p,hm,hp,hl=>by
  have h40:=hf.1
  refine Fun.of (fun _=>[]) Tryz.func123 rfl (zp rfl) (by kernel_rfl) ?_;dsimp only[Tryz.f123]
  push_cast -dsimp
  refine cl (Jl f ino (by omega)) ?_;push_cast -dsimp
  cases hh:zF ino f.xs with
  | true =>
   push_cast -dsimp
   exact ⟨[.inr (127,2)],rfl,rfl,by push_cast -dsimp [zb,za,CLe,ze,JI]⟩
  | false =>
   push_cast -dsimp
   exact ⟨[.inr (127,2)],rfl,rfl,by push_cast -dsimp [zb,za,CLe,ze,JI]⟩
 | m+1,ino,p,hm,hp,hl=>by
  have h40:=hf.1
  have e1:(((m+1:Nat):Int)-1)=(m:Int):=by omega
  rw[e1]
  refine Fun.of (fun i=>if i=8 then [false,false,false,false,false,false,false,false,false,false,false,false,false,false,false,false,false,false,false,true] else []) Tryz.func123 rfl (zp rfl) (by kernel_rfl) ?_;dsimp only[Tryz.f123]
  push_cast -dsimp
  refine cl (Jl f ino (by omega)) ?_;push_cast -dsimp
  cases hh:zF ino f.xs with
  | false =>
   have hb:JI f.xs (m+1) ino p = []:=by rw[JI,hh];rfl
   push_cast -dsimp
   exact ⟨[.inr (127,2)],rfl,rfl,by push_cast -dsimp [zb,za,CLe,ze,hb]⟩
  | true =>
   obtain ⟨hm1,hino⟩:=qG hh
   have hb:JI f.xs (m+1) ino p=⟨p,ino⟩ :: (zg ino f.xs).es.flatMap (fun e=>JI f.xs m e.ino (jU p e.name)):=by rw[JI,hh];rfl
   rw[hb]at hl
   have hs:=hf.2 _ hm1
   have hnm:((m:Int)<0)=False:=eq_false (by omega)
   push_cast -dsimp [hnm]
   generalize zg ino f.xs=x at hs hb hl
   have hle:(zL x.es).length=x.es.length:=List.length_map ..
   rw[List.length_cons]at hl
   refine loop (fun k:Nat=>⟨[(2,.str p),(3,.sc (.int .i64 m)),(4,.ptr 0 0),(9,.ptr 1 0),(11,.own 0 127 2 (MO (⟨p,ino⟩ :: (x.es.take k).flatMap (fun e=>JI f.xs m e.ino (jU p e.name))))),(12,.sc (.int .i64 k))],[fsC f,Xg x],1,0⟩) (fun k=>k<=x.es.length) (fun k=>x.es.length-k) 0 (Nat.zero_le _) ?_ ?_
   ·exact zS.mk [.inl 0] rfl rfl (Nat.zero_le _) rfl (by push_cast -dsimp [zb,za,CLe,ze,List.take_zero,List.flatMap_nil]) (by push_cast -dsimp [zb,za,CLe,ze])
   ·intro k hk0
    by_cases hk:k<x.es.length
    ·have g1:=JD x.es k hk
     have ht:=zef (g:=fun e:zX=>JI f.xs m e.ino (jU p e.name)) hk
     have h1:=Gz (g:=fun e:zX=>JI f.xs m e.ino (jU p e.name)) (l:=x.es) (k+1)
     have hn:=hs.2.2 _ (List.getElem_mem hk)
     have hul:=zbU p x.es[k].name
     rw[ht]at h1
     rw[List.length_append]at h1
     have hbl:∀ l:List zhv,(MO l).length=l.length:=fun l=>List.length_map ..
     push_cast -dsimp [hle,hk,g1]
     (try simp only[lS]);repeat refine And.intro (by omega) ?_
     refine cl (zbK p x.es[k].name (by omega)) ?_;push_cast -dsimp
     (try simp only[lS]);repeat refine And.intro (by omega) ?_
     refine cl (Ny f hf m x.es[k].ino (jU p x.es[k].name) (by omega) (by omega) (by omega)) ?_;push_cast -dsimp
     have hent:=hs.2.1
     rw[List.length_map,List.length_map]
     refine ⟨by omega,by omega,⟨by omega,by omega⟩,k+1,hk,by omega,zS.mk [.inl 0] rfl rfl (Nat.zero_le _) rfl (by push_cast -dsimp [zb,za,CLe,ze,ht,List.map_append]) (by push_cast -dsimp [zb,za,CLe,ze])⟩
    ·push_cast -dsimp [hle,hk]
     have hkk:x.es.take k=x.es:=List.take_of_length_le (by omega)
     rw[hkk]
     exact ⟨[.inl 0],rfl,rfl,by push_cast -dsimp [zb,za,CLe,ze,hb]⟩
abbrev Mo (xs:List zw):List zhv:=JI xs (xs.length+1) 1 [47]
theorem zhi (f:FsV) (hf:U8 f.xs) (hl:(Mo f.xs).length<=1000000):Fun Tryz.prog G 82 [.agg (fsC f)] (.own 0 127 2 (MO (Mo f.xs))) 1:=by
 have hll:(zt f.xs).length=f.xs.length:=List.length_map ..
 have h40:=hf.1
 have hb:=Ny (G:=G) f hf (f.xs.length+1) 1 [47] (by omega) (by simp;omega) hl
 rw[show (((f.xs.length+1:Nat):Int)-1)=(f.xs.length:Int) by omega]at hb
 refine Fun.of (fun _=>[]) Tryz.func82 rfl (zp rfl) (by kernel_rfl) ?_;dsimp only[Tryz.f82]
 push_cast -dsimp [hll]
 refine cl (hb) ?_;push_cast -dsimp
 exact ⟨[.inl 0],rfl,rfl,by push_cast -dsimp [zb,za,CLe,ze]⟩
def Y5 (n:Int) (l:List zhv):List (List UInt8):=(l.filter fun s=>decide (s.ino=n)).map (·.path)
theorem zav {n:Int} {l:List zhv} {i:Nat} (h:i<l.length):Y5 n (l.take (i+1))=Y5 n (l.take i)++if l[i].ino=n then [l[i].path] else []:=by
 unfold Y5
 rw[List.take_add_one,List.getElem?_eq_getElem h,List.filter_append,List.map_append]
 by_cases hc:l[i].ino=n<;>simp[hc]
theorem zcZ (f:FsV) (n:Int) (hf:U8 f.xs) (hl:(Mo f.xs).length<=1000000):Fun Tryz.prog G 46 [.agg (fsC f),.sc (.int .i64 n)] (.own 0 9 1 (qA (Y5 n (Mo f.xs)))) 1:=by
 refine Fun.of (fun _=>[]) Tryz.func46 rfl (zp rfl) (by kernel_rfl) ?_;dsimp only[Tryz.f46]
 push_cast -dsimp
 refine cl (zhi f hf hl) ?_;push_cast -dsimp
 generalize Mo f.xs=l at hl
 have hll:(MO l).length=l.length:=List.length_map ..
 refine loop (fun i:Nat=>⟨[(1,.sc (.int .i64 n)),(5,.own 0 9 1 (qA (Y5 n (l.take i)))),(6,.own 1 127 2 (MO l)),(7,.sc (.int .i64 i))],[],2,0⟩) (fun i=>i<=l.length) (fun i=>l.length-i) 0 (Nat.zero_le _) ?_ ?_
 ·exact zS.mk [.inr (9,1),.inl 0] rfl rfl (Nat.zero_le _) rfl (by push_cast -dsimp [zb,za,CLe,ze,List.take_zero,show Y5 n [] = [] from rfl]) (by push_cast -dsimp [zb,za,CLe,ze])
 ·intro i hi
  by_cases h:i<l.length
  ·have g1:=zk0 l i h
   have ht:=zav (n:=n) h
   have hpl:(Y5 n (l.take i)).length<=i:=by
    unfold Y5
    rw[List.length_map]
    exact Nat.le_trans (List.length_filter_le _ _) (by simp;omega)
   generalize hP1:Y5 n (l.take (i+1))=P1 at ht
   generalize hP0:Y5 n (l.take i)=P0 at ht hpl
   by_cases hc:l[i].ino=n
   ·rw[if_pos hc]at ht
    have hP1:=hP1.trans ht
    clear ht
    push_cast -dsimp [hll,h,g1,hc]
    (try simp only[lS]);repeat refine And.intro (by omega) ?_
    exact ⟨i+1,h,by omega,zS.mk [.inl 0,.inl 1] rfl rfl (Nat.zero_le _) rfl (by rw[hP1];push_cast -dsimp [zb,za,CLe,ze]) (by push_cast -dsimp [zb,za,CLe,ze])⟩
   ·rw[if_neg hc,List.append_nil]at ht
    have hP1:=hP1.trans ht
    clear ht
    push_cast -dsimp [hll,h,g1,hc]
    (try simp only[lS]);repeat refine And.intro (by omega) ?_
    refine ⟨i+1,h,by omega,zS.mk [.inl 0,.inl 1] rfl rfl (Nat.zero_le _) rfl ?_ (by push_cast -dsimp [zb,za,CLe,ze])⟩
    rw[hP1]
    push_cast -dsimp [zb,za,CLe,ze]
  ·rw[List.take_of_length_le (by omega)]
   push_cast -dsimp [hll,h]
   exact ⟨[.inl 0],rfl,rfl,by push_cast -dsimp [zb,za,CLe,ze]⟩
end
end
section
open CA CB
open Go.RowKit
abbrev Jf:=List (List (List UInt8)×zw)
structure yN (f:FsV) (tr:Int->List (List UInt8)->Jf):Prop where
 has:∀ n ns,zF n f.xs=true->tr n ns=(ns,zg n f.xs) :: (zg n f.xs).es.flatMap fun e=>tr e.ino (ns++[e.name])
 not:∀ n ns,zF n f.xs=false->tr n ns = []
abbrev Ur (p:List (List UInt8)×zw):List C:=[.str (qF p.1),.agg (Xg p.2)]
def zat (tr:Int->List (List UInt8)->Jf) (ns:List (List UInt8)) (es:List zX):Jf:=es.flatMap fun e=>tr e.ino (ns++[e.name])
def Xv (tr:Int->List (List UInt8)->Jf) (S:List (List (List UInt8)×List zX)):Jf:=S.flatMap fun p=>zat tr p.1 p.2
abbrev lvC (p:List (List UInt8)×List zX):List C:=[.sl 1 (qA p.1),.sl 2 (zL p.2)]
def UO (S:List (List (List UInt8)×List zX)):List C:=(S.reverse.map lvC).flatten
theorem zkT (S:List (List (List UInt8)×List zX)):(UO S).length=S.length*2:=by
 unfold UO
 rw[zG (k:=2) fun r hr=>by obtain ⟨p,_,rfl⟩:=List.mem_map.1 hr;rfl]
 simp
theorem yj (p:List (List UInt8)×List zX) (S:List (List (List UInt8)×List zX)):UO (p :: S)=UO S++lvC p:=by
 unfold UO;simp
def Zt (p:List (List UInt8)×zw):Prop:=p.1.length<=1000000/\(Lib.join p.1 [47]).length<=1000000
structure Ys (f:FsV) (tr:Int->List (List UInt8)->Jf) (IT:List (List C)) (sf:Nat->Bool) (S:List (List (List UInt8)×List zX)) (k cap:Nat):Prop where
 rest:IT.drop k=(Xv tr S).map Ur
 bound:∀ p∈Xv tr S,Zt p
 le:k<=IT.length
 go:∀ j,j<k->sf j=false
 pos:S.length<=k
 room:S.length<=cap
 roomM:cap<=9223372036854775807
 has:∀ p∈S,p.2.length<=40/\∀ e∈p.2,zF e.ino f.xs=true
theorem Qv (S:List (List (List UInt8)×List zX)):((UO S).all C.stayB)=true:=YG fun r hr=>by
 obtain ⟨p,_,rfl⟩:=List.mem_map.1 hr;rfl
theorem Ys.pop {f:FsV} {tr:Int->List (List UInt8)->Jf} {IT:List (List C)} {sf:Nat->Bool} {S:List (List (List UInt8)×List zX)} {ns:List (List UInt8)} {k cap:Nat} (h:Ys f tr IT sf ((ns,[]) :: S) k cap):Ys f tr IT sf S k cap:=by
 have e:Xv tr ((ns,[]) :: S)=Xv tr S:=by simp[Xv,zat]
 exact ⟨by rw[←e];exact h.rest,fun p hp=>h.bound p (by rw[e];exact hp),h.le,h.go,by have:=h.pos;rw[List.length_cons]at this;omega,by have:=h.room;rw[List.length_cons]at this;omega,h.roomM,fun p hp=>h.has p (List.mem_cons_of_mem _ hp)⟩
theorem Ys.next {f:FsV} {tr:Int->List (List UInt8)->Jf} {IT:List (List C)} {sf:Nat->Bool} {S:List (List (List UInt8)×List zX)} {ns:List (List UInt8)} {e:zX} {r:List zX} {k cap:Nat} (h:Ys f tr IT sf ((ns,e :: r) :: S) k cap) (ht:yN f tr) (hf:U8 f.xs) (h3:Yx f) :
  ∃ y,y=zg e.ino f.xs/\y∈f.xs/\IT[k]?=some (Ur (ns++[e.name],y))/\Zt (ns++[e.name],y)/\(sf k=false->(∀ c,S.length+2<=c->c<=9223372036854775807->Ys f tr IT sf ((ns++[e.name],y.es) :: (ns,r) :: S) (k+1) c)/\(y.es = []->Ys f tr IT sf ((ns,r) :: S) (k+1) cap)):=by
 have hh:zF e.ino f.xs=true:=(h.has (ns,e :: r) List.mem_cons_self).2 e List.mem_cons_self
 obtain ⟨hm,hi⟩:=qG hh
 have hu:=ht.has e.ino (ns++[e.name]) hh
 have hrest:Xv tr ((ns,e :: r) :: S)=(ns++[e.name],zg e.ino f.xs) :: Xv tr ((ns++[e.name],(zg e.ino f.xs).es) :: (ns,r) :: S):=by
  simp only[Xv,zat,List.flatMap_cons,hu,List.cons_append,List.append_assoc]
 refine ⟨_,rfl,hm,?_,h.bound _ (by rw[hrest];exact List.mem_cons_self),fun hs=>?_⟩
 ·have:=h.rest
  rw[hrest]at this
  have:=congrArg (·[0]?) this
  simpa using this
 ·have hd:IT.drop (k+1)=(Xv tr ((ns++[e.name],(zg e.ino f.xs).es) :: (ns,r) :: S)).map Ur:=by
   rw[←List.drop_drop,h.rest,hrest];rfl
  have hb:∀ p∈Xv tr ((ns++[e.name],(zg e.ino f.xs).es) :: (ns,r) :: S),Zt p:=fun p hp=>h.bound p (by rw[hrest];exact List.mem_cons_of_mem _ hp)
  have hkl:k+1<=IT.length:=by
   rcases Nat.lt_or_ge k IT.length with g | g
   ·exact g
   ·have:=h.rest
    rw[List.drop_eq_nil_of_le g,hrest]at this;cases this
  have hgo:∀ j,j<k+1->sf j=false:=fun j hj=>by
   rcases Nat.lt_or_ge j k with g | g
   ·exact h.go j g
   ·rw[show j=k by omega];exact hs
  have hp:=h.pos
  have hro:=h.room
  have hrm:=h.roomM
  rw[List.length_cons]at hp hro
  have h0:=h.has (ns,e :: r) List.mem_cons_self
  have hr0:r.length<=40/\∀ e'∈r,zF e'.ino f.xs=true:=⟨by have:=h0.1;simp at this;omega,fun e' he=>h0.2 e' (List.mem_cons_of_mem _ he)⟩
  refine ⟨fun c h1 h2=>⟨hd,hb,hkl,hgo,by simp;omega,by simp;omega,h2,fun p hp=>?_⟩,fun hne=>?_⟩
  ·rcases List.mem_cons.1 hp with rfl | hp
   ·exact ⟨(hf.2 _ hm).2.1,fun e' he=>h3 _ hm e' he⟩
   ·rcases List.mem_cons.1 hp with rfl | hp
    ·exact hr0
    ·exact h.has p (List.mem_cons_of_mem _ hp)
  ·have hz:Xv tr ((ns++[e.name],(zg e.ino f.xs).es) :: (ns,r) :: S)=Xv tr ((ns,r) :: S):=by rw[hne];simp[Xv,zat]
   rw[hz]at hd hb
   exact ⟨hd,hb,hkl,hgo,by simp;omega,by simp;omega,hrm,fun p hp=>by
    rcases List.mem_cons.1 hp with rfl | hp
    ·exact hr0
    ·exact h.has p (List.mem_cons_of_mem _ hp)⟩
theorem uC (f:FsV) (ino:Int) (ns:List (List UInt8)) (tr:Int->List (List UInt8)->Jf) (ht:yN f tr) (hf:U8 f.xs) (hR:zZ f.xs) (h3:Yx f) (h2:∀ x∈f.xs,x.kind≠2->x.es = []) (hl:(tr ino ns).length<=1000000) (hb:∀ p∈tr ino ns,Zt p) :
  UM Tryz.prog G0 157 [] [.row (fsC f),.row [.sc (.int .i64 ino)],.row [.sl 1 (qA ns)]] [] ((tr ino ns).map Ur):=by
 have h40:=hf.1
 refine UM.of (fun i=>if i=1000000+197 then [true] else if i=1 then [false,false,false,false,false,false,false,true] else if i=10 then [false,false,false,false,true] else []) Tryz.func157 rfl (zp rfl) (by kernel_rfl) ?_;dsimp only[Tryz.f157]
 intro l sf
 push_cast -dsimp
 refine cl (jI f ino (by omega) hR) ?_;push_cast -dsimp
 cases hh:zF ino f.xs with
 | false =>
  have hn:=ht.not ino ns hh
  push_cast -dsimp
  rw[hn]
  exact .inl ⟨rfl,fun j hj=>absurd hj (Nat.not_lt_zero _)⟩
 | true =>
  have hn:=ht.has ino ns hh
  have q:Zt (ns,zg ino f.xs):=hb _ (by rw[hn];exact List.mem_cons_self)
  have h0:((tr ino ns).map Ur)[0]?=some (Ur (ns,zg ino f.xs)):=by rw[hn];rfl
  obtain ⟨hm,hino⟩:=qG hh
  generalize zg ino f.xs=x at hn h0 hm hino
  have hITl:((tr ino ns).map Ur).length<=1000000:=by rw[List.length_map];exact hl
  generalize hIT:(tr ino ns).map Ur=IT at h0 hITl
  push_cast -dsimp
  refine cl (XB ns (by have:=q.1;dsimp only at this;omega) (by have:=q.2;dsimp only at this;omega)) ?_;push_cast -dsimp [h0]
  refine ⟨by push_cast -dsimp [zb,za,CLe,ze],fun j hj=>absurd hj (Nat.not_lt_zero _),br (fun hs=>?_) (fun hs=>?_)⟩
  ·push_cast -dsimp
   exact .inr ⟨Nat.succ_pos _,hs⟩
  ·push_cast -dsimp
   refine loop (fun p:List (List (List UInt8)×List zX)×Nat×Nat=>⟨[(0,.sc (.func (.yield l) #[] #[])),(1,.row (fsC f)),(7,.bs 1 0 2 p.1.length p.2.2)],[[.any,.any,.any,.any,.any,.any],UO p.1++List.replicate ((p.2.2-p.1.length)*2) .any],0,p.2.1⟩) (fun p=>Ys f tr IT sf p.1 p.2.1 p.2.2) (fun p=>2*(IT.length-p.2.1)+p.1.length) ([(ns,x.es)],1,1) ?_ ?_ ?_
   ·have hdr:IT.drop 1=(Xv tr [(ns,x.es)]).map Ur:=by
     rw[←hIT,hn]
     simp[Xv,zat]
    show Ys f tr IT sf [(ns,x.es)] 1 1
    exact ⟨hdr,fun p hp=>hb p (by rw[hn];exact List.mem_cons_of_mem _ (by simpa [Xv,zat] using hp)),by have:=(List.getElem?_eq_some_iff.1 h0).1;omega,fun j hj=>by rw[show j=0 by omega];exact hs,Nat.le_refl _,Nat.le_refl _,by omega,fun p hp=>by
     rw[List.mem_singleton]at hp;subst hp
     exact ⟨(hf.2 x hm).2.1,fun e he=>h3 x hm e he⟩⟩
   ·have hl1:UO [(ns,x.es)] = [.sl 1 (qA ns),.sl 2 (zL x.es)]:=rfl
    exact zS.mk [] rfl rfl (Nat.zero_le _) rfl (by push_cast -dsimp [zb,za,CLe,ze]) (by push_cast -dsimp [zb,za,CLe,ze,hl1])
   ·rintro ⟨S,k,cap⟩ hS
    dsimp only at hS ⊢
    cases S with
    | nil =>
     push_cast -dsimp
     have hr:=hS.rest
     have he:IT.length<=k:=by
      rcases Nat.lt_or_ge k IT.length with g | g
      ·have:=congrArg List.length hr
       simp[Xv]at this;omega
      ·exact g
     exact .inl ⟨by have:=hS.le;omega,hS.go⟩
    | cons p S' =>
     obtain ⟨ns1,es1⟩:=p
     have hL:=zkT S'
     have hd0:∀ X,(UO S'++X).drop (S'.length*2)=X:=fun X=>List.drop_left' hL
     have hd1:∀ X,(UO S'++X).drop (S'.length*2+1)=X.drop 1:=fun X=>by rw[←List.drop_drop,hd0]
     have hd2:∀ X,(UO S'++X).drop (S'.length*2+2)=X.drop 2:=fun X=>by rw[←List.drop_drop,hd0]
     have ht0:∀ X,(UO S'++X).take (S'.length*2)=UO S':=fun X=>List.take_left' hL
     have ht1:∀ X,(UO S'++X).take (S'.length*2+1)=UO S'++X.take 1:=fun X=>by
      rw[List.take_append,List.take_of_length_le (by omega),hL];congr 2;omega
     have hpos:((0:Int)<(S'.length:Int)+1)=True:=eq_true (by omega)
     have hroom:=hS.room
     have hroomM:=hS.roomM
     rw[List.length_cons]at hroom
     have hlc:(((S'.length:Int)+1-1)=(S'.length:Int)):=by omega
     push_cast -dsimp [yj,hlc,hpos]
     (try simp only[lS]);repeat refine And.intro (by omega) ?_
     generalize hpad:List.replicate ((cap-(S'.length+1))*2) C.any=pad
     have hps:(pad.all C.stayB)=true:=by rw[←hpad];simp[List.all_replicate,C.stayB]
     have hst1:((UO S'++(lvC (ns1,es1)++pad)).all C.stayB)=true:=by rw[List.all_append,Qv,List.all_append,hps];rfl
     have hpl:pad.length=(cap-(S'.length+1))*2:=by rw[←hpad];simp
     refine loop (fun p:List zX×Nat=>⟨[(0,.sc (.func (.yield l) #[] #[])),(1,.row (fsC f)),(7,.bs 1 0 2 (S'.length+1) cap),(8,.ptr 1 (S'.length*2))],[[.any,.any,.any,.any,.any,.any],UO S'++([.sl 1 (qA ns1),.sl 2 (zL p.1)]++pad)],0,p.2⟩) (fun p=>Ys f tr IT sf ((ns1,p.1) :: S') p.2 cap/\2*(IT.length-p.2)<=2*(IT.length-k)) (fun p=>p.1.length) (es1,k) ⟨hS,Nat.le_refl _⟩ ?_ ?_
     ·exact zS.mk [] rfl rfl (Nat.zero_le _) rfl (by push_cast -dsimp [zb,za,CLe,ze]) (by push_cast -dsimp [zb,za,CLe,ze,List.append_assoc];exact zQ hst1)
     ·rintro ⟨es,k1⟩ ⟨hT,hkk⟩
      dsimp only at hT hkk ⊢
      cases es with
      | nil =>
       push_cast -dsimp [hd0,hd1,hd2,ht0,ht1,hlc]
       refine ⟨by omega,by omega,⟨by omega,by omega⟩,(S',k1,cap),hT.pop,by dsimp only;omega,zS.mk [] rfl rfl (Nat.zero_le _) rfl (by push_cast -dsimp [zb,za,CLe,ze]) ?_⟩
       push_cast -dsimp [zb,za,CLe,ze]
       exact zbm (zQ (Qv S')) (YW (by simp[hpl];omega))
      | cons e r =>
       obtain ⟨y,hy,hym,hk1,hbd,hnext⟩:=hT.next ht hf h3
       have hrl:((0:Int)<(r.length:Int)+1)=True:=eq_true (by omega)
       have hlr:(zL r).length=r.length:=List.length_map ..
       have hhe:zF e.ino f.xs=true:=(hT.has (ns1,e :: r) List.mem_cons_self).2 e List.mem_cons_self
       have hgy:zg e.ino f.xs=y:=hy.symm
       have hb1:ns1.length+1<=1000000:=by have:=hbd.1;simpa using this
       have hb2:(Lib.join (ns1++[e.name]) [47]).length<=1000000:=hbd.2
       have hst2:(qA ns1).length=ns1.length:=List.length_map ..
       push_cast -dsimp [hd0,hd1,hd2,ht0,ht1,hlc,hlr,hrl,hst2,List.append_assoc,List.take_length]
       (try simp only[lS]);repeat refine And.intro (by omega) ?_
       refine cl (jI f e.ino (by omega) hR) ?_;push_cast -dsimp [hgy,hhe]
       refine cl (XB (ns1++[e.name]) (by simp;omega) (by omega)) ?_;push_cast -dsimp [hk1]
       refine ⟨by push_cast -dsimp [zb,za,CLe,ze],hT.go,br (fun hs1=>?_) (fun hs1=>?_)⟩
       ·push_cast -dsimp
        exact .inr ⟨Nat.succ_pos _,hs1⟩
       ·obtain ⟨w1,w2⟩:=hnext hs1
        by_cases k2:y.kind=2
        ·have hSk:=hT.pos
         have hkl:=hT.le
         rw[List.length_cons]at hSk
         have hc1:(UO S'++C.sl 1 (qA ns1) :: C.sl 2 (List.map k9 r) :: pad).length=cap*2:=by
          rw[List.length_append,hL,List.length_cons,List.length_cons,hpl];omega
         have hc2:(UO S'++C.sl 1 (qA ns1) :: C.sl 2 (List.map k9 r) :: pad).take ((S'.length+1)*2)=UO S'++[C.sl 1 (qA ns1),C.sl 2 (List.map k9 r)]:=by
          rw[List.take_append,List.take_of_length_le (by omega),hL,show (S'.length+1)*2-S'.length*2=2 by omega];rfl
         push_cast -dsimp [k2]
         refine zoB (UO S'++[C.sl 1 (qA ns1),C.sl 2 (List.map k9 r)]++[C.sl 1 (qA (ns1++[e.name])),C.sl 2 (zL y.es)]) rfl rfl (by decide) rfl (by decide) (Nat.zero_le _) hc1 hroom hroomM (by omega) (by omega) (by rw[hc2];exact zC (by rw[List.all_append,List.all_append,Qv];rfl)) (fun c' g1 g2=>?_)
         have hw:=w1 c' (by omega) g2
         have hwl:=hw.le
         push_cast -dsimp [k2]
         refine ⟨((ns1++[e.name],y.es) :: (ns1,r) :: S',k1+1,c'),hw,by simp only[List.length_cons];omega,zS.mk [] rfl rfl (Nat.zero_le _) rfl (by push_cast -dsimp [zb,za,CLe,ze]) ?_⟩
         push_cast -dsimp [zb,za,CLe,ze,yj,List.append_assoc]
         exact zQ (by rw[List.all_append,Qv];simp[List.all_replicate,C.stayB])
        ·push_cast -dsimp [k2]
         have hz:=w2 (h2 y hym k2)
         have hle:=hz.le
         refine ⟨(r,k1+1),⟨hz,by dsimp only;omega⟩,by dsimp only;simp,zS.mk [] rfl rfl (Nat.zero_le _) rfl (by push_cast -dsimp [zb,za,CLe,ze]) ?_⟩
         push_cast -dsimp [zb,za,CLe,ze,List.append_assoc]
         exact zQ (by rw[List.all_append,Qv,List.all_cons,List.all_cons,hps];rfl)
end
section
open CA CB
open Go.RowKit
structure zeM (f:FsV) (tr:Int->List (List UInt8)->Jf):Prop where
 tree:yN f tr
 few:U8 f.xs
 rise:zZ f.xs
 third:Yx f
 leaf:∀ x∈f.xs,x.kind≠2->x.es = []
structure x9 (tr:Int->List (List UInt8)->Jf) (ino:Int) (ns:List (List UInt8)):Prop where
 len:(tr ino ns).length<=1000000
 bound:∀ p∈tr ino ns,Zt p
abbrev zeG (l:Jf):List (List C):=l.map Ur
theorem zg0 {l:Jf} {k:Nat} {it:List C} (h:(zeG l)[k]?=some it):∃ p,l[k]?=some p/\it=Ur p:=by
 rw[List.getElem?_map]at h
 cases hq:l[k]? with
 | none=>rw[hq]at h;cases h
 | some x=>rw[hq]at h;cases h;exact ⟨x,rfl,rfl⟩
abbrev zcs (p:List (List UInt8)×zw):zhv:=⟨qF p.1,p.2.ino⟩
theorem zkP {f:FsV} {tr:Int->List (List UInt8)->Jf} {ino:Int} {ns:List (List UInt8)} (hw:zeM f tr) (hs:x9 tr ino ns):UM Tryz.prog G0 157 [] [.row (fsC f),.row [.sc (.int .i64 ino)],.row [.sl 1 (qA ns)]] [] (zeG (tr ino ns)):=
 uC f ino ns tr hw.tree hw.few hw.rise hw.third hw.leaf hs.len hs.bound
theorem zhY (f:FsV) (ino:Int) (ns:List (List UInt8)):Fun Tryz.prog G0 116 [.agg (fsC f),.sc (.int .i64 ino),.sl 1 (qA ns)] (.clo (.func 157) [] [.row (fsC f),.row [.sc (.int .i64 ino)],.row [.sl 1 (qA ns)]]) 0:=by
 refine Fun.of (fun _=>[]) Tryz.func116 rfl (zp rfl) (by kernel_rfl) ?_;dsimp only[Tryz.f116]
 push_cast -dsimp
 exact ⟨[],rfl,rfl,by push_cast -dsimp [zb,za,CLe,ze]⟩
theorem zjg (f:FsV):Fun Tryz.prog G0 77 [.agg (fsC f)] (.clo (.func 157) [] [.row (fsC f),.row [.sc (.int .i64 1)],.row [.sl 1 (qA [])]]) 0:=by
 refine Fun.of (fun _=>[]) Tryz.func77 rfl (zp rfl) (by kernel_rfl) ?_;dsimp only[Tryz.f77]
 push_cast -dsimp
 refine call (Fun.less (zhY f 1 []) (by push_cast -dsimp [zb,za,CLe,ze])) ?_
 push_cast -dsimp
 exact ⟨[],rfl,rfl,by push_cast -dsimp [zb,za,CLe,ze]⟩
def Qi (n:Int) (l:Jf):List (List UInt8):=(l.filter fun p=>decide (p.2.ino=n)).map fun p=>qF p.1
def UR (n:Int) (l:Jf):Option (List UInt8):=(l.find? fun p=>decide (p.2.ino=n)&&decide (p.2.kind=2)).map fun p=>qF p.1
theorem xk (f:FsV) (n:Int) (tr:Int->List (List UInt8)->Jf) (hw:zeM f tr) (hs:x9 tr 1 []) :
  Fun Tryz.prog G0 43 [.agg (fsC f),.sc (.int .i64 n)] (.tup [.str ((UR n (tr 1 [])).getD []),.sc (.bool (UR n (tr 1 [])).isSome)]) 0:=by
 refine Fun.of (fun _=>[]) Tryz.func43 rfl (zp rfl) (by kernel_rfl) ?_;dsimp only[Tryz.f43]
 push_cast -dsimp
 refine cl (zjg f) ?_;push_cast -dsimp
 have hl:=hs.len
 have hit:=zkP hw hs
 generalize tr 1 []=l at hit hl
 refine range (zeG l) (fun k=>match l[k]? with | some p=>decide (p.2.ino=n)&&decide (p.2.kind=2) | none=>false) 4 (fun k=>⟨[],[[.any,.any,.any,.any],[.sc (.int .i64 n)],[.any],[.any]],0,0⟩) hit (by push_cast -dsimp) (by push_cast -dsimp) (by push_cast -dsimp) (Nat.zero_le _) (by push_cast -dsimp) (fun it h=>?_) (fun k _=>rfl) ?_ (fun k it hk hsf=>?_) (fun hsf=>?_)
 ·obtain ⟨x,_,rfl⟩:=List.mem_map.1 h;rfl
 ·exact zS.mk [] rfl rfl (Nat.le_of_ble_eq_true rfl) rfl (by push_cast -dsimp [zb,za,CLe,ze]) (by push_cast -dsimp [zb,za,CLe,ze])
 ·obtain ⟨x,hx2,rfl⟩:=zg0 hk
  have hfirst:(decide (x.2.ino=n)&&decide (x.2.kind=2))=true->UR n l=some (qF x.1):=fun hb=>by
   obtain ⟨hkl,hxe⟩:=List.getElem?_eq_some_iff.1 hx2
   unfold UR
   rw[List.find?_eq_some_iff_getElem (b:=x) |>.2 ⟨hb,k,hkl,hxe,fun j hj=>?_⟩]
   ·rfl
   ·have:=hsf j hj
    rw[List.getElem?_eq_getElem (by omega)]at this
    simp only[this];rfl
  by_cases c1:x.2.ino=n
  ·by_cases c2:x.2.kind=2
   ·have hd:=hfirst (by simp[c1,c2])
    push_cast -dsimp [c1,c2]
    refine ⟨by rw[hx2];simp[c1,c2],⟨[],[[.any,.any,.any,.any],[.sc (.int .i64 n)],[.str (qF x.1)],[.sc (.bool true)]],0,0⟩,rfl,zS.mk [] rfl rfl (Nat.le_of_ble_eq_true rfl) rfl (by push_cast -dsimp [zb,za,CLe,ze]) (by push_cast -dsimp [zb,za,CLe,ze]),?_⟩
    push_cast -dsimp [hd]
    exact ⟨[],rfl,rfl,by push_cast -dsimp [zb,za,CLe,ze,hd,Option.getD_some,Option.isSome_some]⟩
   ·push_cast -dsimp [c1,c2]
    refine ⟨by rw[hx2];simp[c2],zS.mk [] rfl rfl (Nat.le_of_ble_eq_true rfl) rfl (by push_cast -dsimp [zb,za,CLe,ze]) (by push_cast -dsimp [zb,za,CLe,ze])⟩
  ·push_cast -dsimp [c1]
   refine ⟨by rw[hx2];simp[c1],zS.mk [] rfl rfl (Nat.le_of_ble_eq_true rfl) rfl (by push_cast -dsimp [zb,za,CLe,ze]) (by push_cast -dsimp [zb,za,CLe,ze])⟩
 ·have hnone:UR n l=none:=by
   unfold UR
   rw[Option.map_eq_none_iff,List.find?_eq_none]
   intro x hx
   obtain ⟨k,hk,rfl⟩:=List.getElem_of_mem hx
   have:=hsf k (by simpa using hk)
   rw[List.getElem?_eq_getElem hk]at this
   simpa only[Bool.not_eq_true] using this
  push_cast -dsimp [hnone]
  exact ⟨[],rfl,rfl,by push_cast -dsimp [zb,za,CLe,ze,Option.getD_none,Option.isSome_none]⟩
end
section
inductive Dep (xs:List zw):Nat->Int->Prop
 | root:Dep xs 0 1
 | step {k:Nat} {n:Int} {e:zX}:Dep xs k n->zF n xs=true->e∈(zg n xs).es->Dep xs (k+1) e.ino
theorem qx {f:FsV} (h:okV f):U8 f.xs/\Jw f/\YP f/\Yx f/\YV f/\Qw f/\kP f:=by
 obtain ⟨h0,h⟩:=h
 unfold Yg at h
 refine ⟨h0,?_⟩
 split at h
 ·split at h
  ·split at h
   ·split at h
    ·split at h
     ·split at h
      ·exact ⟨by assumption,by assumption,by assumption,by assumption,by assumption,by assumption⟩
      ·cases h
     ·cases h
    ·cases h
   ·cases h
  ·cases h
 ·cases h
theorem zgd {es:List zX}:∀ {S:List Int} {n:Int},n∈Nd S es↔n∈S∨∃ e∈es,e.ino=n:=by
 induction es with
 | nil=>intro S n;simp[Nd]
 | cons e r ih =>
  intro S n
  show n∈Nd (Xl S e.ino) r↔_
  rw[ih,kj]
  constructor
  ·rintro ((h | h) | ⟨e',he,h⟩)
   ·exact .inl h
   ·exact .inr ⟨e,List.mem_cons_self,h.symm⟩
   ·exact .inr ⟨e',List.mem_cons_of_mem _ he,h⟩
  ·rintro (h | ⟨e',he,h⟩)
   ·exact .inl (.inl h)
   ·rcases List.mem_cons.1 he with rfl | he
    ·exact .inl (.inr h.symm)
    ·exact .inr ⟨e',he,h⟩
theorem zeJ {xs:List zw} {es:List zX}:∀ {S:List Int},Y6 xs S->(∀ e∈es,zF e.ino xs=true)->Y6 xs (Nd S es):=by
 induction es with
 | nil=>intro S h _;exact h
 | cons e r ih=>intro S h he;exact ih (h.one (he e List.mem_cons_self)) fun e' h'=>he e' (List.mem_cons_of_mem _ h')
theorem yW {xs:List zw} (h3:∀ x∈xs,∀ e∈x.es,zF e.ino xs=true):∀ (m i:Nat) (S:List Int),Y6 xs S->(∀ n∈S,∃ k,Dep xs k n)->Y6 xs (Uj xs m i S)/\∀ n∈Uj xs m i S,∃ k,Dep xs k n
 | 0,i,S,h,hd=>by unfold Uj;exact ⟨h,hd⟩
 | m+1,i,S,h,hd=>by
  unfold Uj
  split
  ·rename_i n hn
   have hmem:=List.mem_of_getElem? hn
   have hh:=h.has n hmem
   obtain ⟨hm,_⟩:=qG hh
   obtain ⟨k,hk⟩:=hd n hmem
   refine yW h3 m (i+1) _ (zeJ h fun e he=>h3 _ hm e he) fun n' hn'=>?_
   rcases zgd.1 hn' with h' | ⟨e,he,rfl⟩
   ·exact hd n' h'
   ·exact ⟨k+1,.step hk hh he⟩
  ·exact ⟨h,hd⟩
theorem zd1 {S T:List Int} (hS:S.Nodup) (hs:∀ n∈S,n∈T) (hl:T.length<=S.length):∀ n∈T,n∈S:=by
 intro n hn
 by_cases h:n∈S
 ·exact h
 ·exfalso
  have:=Hk (S:=n :: S) (T:=T) (List.nodup_cons.2 ⟨h,hS⟩) fun m hm=>by
   rcases List.mem_cons.1 hm with rfl | hm
   ·exact hn
   ·exact hs m hm
  rw[List.length_cons]at this;omega
theorem zbp {f:FsV} (h:okV f) {n:Int} (hn:zF n f.xs=true):∃ k,Dep f.xs k n:=by
 obtain ⟨_,h1,_,h3,_,h5,_⟩:=qx h
 have hroot:Y6 f.xs [1]:=⟨by simp,fun n hn=>by simp at hn;subst hn;exact h1.2.2.2.2.2.2.2.1⟩
 obtain ⟨g1,g2⟩:=yW h3 (f.xs.length+1) 0 [1] hroot fun n hn=>by simp at hn;subst hn;exact ⟨0,.root⟩
 have hS:=zd1 (T:=f.xs.map (·.ino)) g1.nodup (fun m hm=>xr.1 (g1.has m hm)) (by rw[List.length_map];exact Nat.le_of_eq h5.symm) n (xr.1 hn)
 exact g2 n hS
theorem QH {xs:List zw} {n:Int} {e:zX} (hh:zF n xs=true) (he:e∈(zg n xs).es):(e.ino,n)∈qp xs:=by
 obtain ⟨hm,hi⟩:=qG hh
 unfold qp
 exact List.mem_flatMap.2 ⟨_,hm,List.mem_map.2 ⟨e,he,by rw[hi]⟩⟩
theorem zjY {n p:Int} {l:List (Int×Int)} (h:(n,p)∈l):1<=Z8 n l:=by
 unfold Z8
 exact List.length_pos_iff.2 (List.ne_nil_of_mem (List.mem_filter.2 ⟨h,by simp⟩))
theorem zez {n p q:Int} {l:List (Int×Int)} (hp:(n,p)∈l) (hq:(n,q)∈l) (h:Z8 n l=1):p=q:=by
 unfold Z8 at h
 obtain ⟨x,hx⟩:=List.length_eq_one_iff.1 h
 have h1:(n,p)∈l.filter fun p=>p.1==n:=List.mem_filter.2 ⟨hp,by simp⟩
 have h2:(n,q)∈l.filter fun p=>p.1==n:=List.mem_filter.2 ⟨hq,by simp⟩
 rw[hx]at h1 h2
 simp only[List.mem_singleton]at h1 h2
 exact congrArg Prod.snd (h1.trans h2.symm)
theorem VH {f:FsV} (h:okV f) {n:Int} (hh:zF n f.xs=true) {e:zX} (he:e∈(zg n f.xs).es):(zg n f.xs).kind=2:=by
 obtain ⟨_,_,h2,_⟩:=qx h
 obtain ⟨hm,_⟩:=qG hh
 by_cases hk:(zg n f.xs).kind=2
 ·exact hk
 ·have:=((h2 _ hm).2.1 hk).1
  rw[this]at he;cases he
theorem Jq {f:FsV} (h:okV f) {n:Int} (hh:zF n f.xs=true) {e:zX} (he:e∈(zg n f.xs).es):e.ino≠1:=fun h1=>by
 obtain ⟨_,hf,_,_,h4,_⟩:=qx h
 obtain ⟨hm,hi⟩:=qG hf.2.2.2.2.2.2.2.1
 have hq:=(h4 _ hm).2
 rw[if_pos hi,hi]at hq
 have:=zjY (QH hh he)
 rw[h1]at this;omega
theorem Hr {f:FsV} (h:okV f):∀ (k k':Nat) (n:Int),Dep f.xs k n->Dep f.xs k' n->zF n f.xs=true->(zg n f.xs).kind=2->k=k'
 | 0,0,_,_,_,_,_=>rfl
 | 0,k'+1,_,h1,h2,hh,hk=>by
  cases h1
  generalize hn:(1:Int)=n at h2
  cases h2 with
  | step a b c=>exact absurd hn.symm (Jq h b c)
 | k+1,0,_,h1,h2,hh,hk=>by
  cases h2
  generalize hn:(1:Int)=n at h1
  cases h1 with
  | step a b c=>exact absurd hn.symm (Jq h b c)
 | k+1,k'+1,n,h1,h2,hh,hk=>by
  obtain ⟨_,hf,_,_,h4,_⟩:=qx h
  cases h1 with
  | @step _ p e a b c =>
   generalize hn:e.ino=n at h2 hh hk
   cases h2 with
   | @step _ p' e' a' b' c' =>
    have hp:=QH b c
    have hp':=QH b' c'
    rw[hn]at hp
    obtain ⟨hm,hi⟩:=qG hh
    have hq:=(h4 _ hm).2
    rw[hi]at hq
    have hne:e'.ino≠1:=Jq h b' c'
    rw[if_neg hne]at hq
    have:=zez hp hp' (hq.2 hk).1
    subst this
    rw[Hr h k k' p a a' b (VH h b c)]
end
section
theorem V5 (n:Int):∀ xs:List zw,Z8 n (qp xs)=JG n xs
 | []=>rfl
 | x :: r=>by
  have ih:=V5 n r
  unfold JG Ma at ih ⊢
  unfold qp at ih ⊢
  rw[List.flatMap_cons,List.map_cons,List.sum_cons,←ih]
  unfold Z8 JN
  rw[List.filter_append,List.length_append]
  congr 1
  induction x.es with
  | nil=>rfl
  | cons e es ie =>
   unfold Z6 at ie ⊢
   rw[List.map_cons,List.filter_cons,List.filter_cons]
   by_cases h:e.ino=n
   ·simp only[h,beq_self_eq_true,if_true,decide_true,List.length_cons,ie]
   ·simp only[show (e.ino==n)=false from beq_eq_false_iff_ne.2 h,decide_eq_false h,Bool.false_eq_true,if_false,ie]
theorem Z4 {f:FsV} (h:Yg f=0):Jw f/\YP f/\Yx f/\YV f/\Qw f/\kP f:=by
 unfold Yg at h
 split at h
 ·split at h
  ·split at h
   ·split at h
    ·split at h
     ·split at h
      ·exact ⟨by assumption,by assumption,by assumption,by assumption,by assumption,by assumption⟩
      ·cases h
     ·cases h
    ·cases h
   ·cases h
  ·cases h
 ·cases h
theorem NV {es:List zX} (h:Xb es):Ju es:=by
 have hadj:∀ i (h1:i+1<es.length),Op.bytesLess es[i].name es[i+1].name=true:=fun i h1=>(h (i+1) h1).2.2 (by omega)
 have key:∀ (d i:Nat) (h1:i+d+1<es.length),Op.bytesLess (es[i]'(by omega)).name es[i+d+1].name=true:=by
  intro d
  induction d with
  | zero=>intro i h1;exact hadj i h1
  | succ d ih=>intro i h1;exact Hh (ih i (by omega)) (hadj (i+d+1) (by omega))
 refine List.pairwise_iff_getElem.2 fun i j hi hj hij=>?_
 have:=key (j-i-1) i (by omega)
 have e:i+(j-i-1)+1=j:=by omega
 simp only[e]at this
 exact this
theorem NS {f:FsV} (h:Yg f=0):FsI f:=by
 obtain ⟨h1,h2,h3,h4,h5,h6⟩:=Z4 h
 obtain ⟨a1,a2,a3,a4,a5,a6,a7,a8,a9⟩:=h1
 refine ⟨a7,a6,fun x hx=>(h2 x hx).1,fun x hx=>?_,fun x hx hk=>((h2 x hx).2.1 hk).1,h3,fun x hx=>?_,a8,a9,?_⟩
 ·by_cases hk:x.kind=2
  ·exact NV ((h2 x hx).2.2.1 hk).2
  ·rw[((h2 x hx).2.1 hk).1];exact List.Pairwise.nil
 ·rw[(h4 x hx).1,V5]
 ·obtain ⟨b1,b2⟩:=qG a8
  have q:=(h4 _ b1).2
  rw[b2,if_pos rfl,V5]at q
  exact q.1
theorem zot {w:jt} (h:okW w):Zh w:=by
 obtain ⟨h1,h2,h3,h4,h5⟩:=h.2
 exact ⟨NS h1,h4.1,h2,fun x hx=>⟨(h3 x hx).1,(h3 x hx).2.2.1⟩⟩
theorem zob {w:jt} (h:okW w):zaO 40 w:=by
 obtain ⟨⟨g1,g2,g3,g4⟩,h1,_⟩:=h
 obtain ⟨a1,a2,a3,a4,a5,_⟩:=(Z4 h1).1
 exact ⟨g2.1,fun x hx=>by obtain ⟨q1,q2,q3⟩:=g2.2 x hx;exact ⟨q2,q1,q3⟩,g4,g1,g3.1,fun x hx=>by obtain ⟨q1,q2,q3⟩:=g3.2 x hx;exact ⟨q2,q1,q3⟩,by omega,by omega⟩
theorem zaO.s {N:Nat} {w:jt} (h:zaO N w) (hi:Zh w) (hN:N<=10000):vI w:=by
 have hr:=zcS hi.fs
 have hn:=h.next
 exact ⟨⟨by have:=h.len;omega,fun x hx=>by obtain ⟨q1,q2,q3⟩:=h.node x hx;exact ⟨by omega,by omega,fun e he=>by have:=q3 e he;omega⟩⟩,⟨by omega,by omega⟩,by have:=h.klen;omega,by have:=h.plen;omega⟩
def zf0 (d:jG) (i:Nat) (o:OpV):jG:=
 if o.kind<1 then d else if (X0 d o).2=0 then (X0 d o).1 else HH d (UV (1+((i % 5:Nat):Int)) (1+((i % 22:Nat):Int)) o.a o.b (X0 d o).2)
def mkD (w:jt) (l:List OpV):Nat->jG
 | 0=>zh5 w
 | i+1=>match l[i]? with
  | some o=>zf0 (mkD w l i) i o
  | none=>mkD w l i
structure OpS (o:OpV):Prop where
 a:o.a.length<=1000
 b:o.b.length<=1000
 d:o.d.length<=5000
structure Xz (N:Nat) (d:jG):Prop where
 wi:Zh d.w
 wb:zaO (40+N) d.w
 ops:d.ops.length<=N
 diags:d.diags.length<=N
 slot:0<=d.slot/\d.slot<=1073741824+N
theorem Xz.s {N:Nat} {d:jG} (h:Xz N d) (hN:N<=9000):Uf d:=
 ⟨h.wi,h.wb.s h.wi (by omega),by have:=h.ops;omega,by have:=h.diags;omega,h.slot.1,by have:=h.slot.2;omega⟩
theorem Xz.up {N:Nat} {d:jG} (h:Xz N d):Xz (N+1) d:=⟨h.wi,h.wb.up,by have:=h.ops;omega,by have:=h.diags;omega,h.slot.1,by have:=h.slot.2;omega⟩
theorem zd7 {d:jG} {o:OpV} (h:(X0 d o).2≠0):(X0 d o).1=d:=by
 unfold X0 at h ⊢
 split
 ·rfl
 ·split
  ·rfl
  ·rename_i h1 h2;rw[if_neg h1,if_neg h2]at h;exact absurd rfl h
theorem zmn {N:Nat} {d:jG} (h:Xz N d) {o:OpV} (ho:o.d.length<=5000):Xz (N+1) (X0 d o).1:=by
 by_cases hz:(X0 d o).2=0
 case neg=>rw[zd7 hz];exact h.up
 unfold X0 at hz ⊢
 split at hz
 ·exact absurd hz (show ¬(12:Int)=0 by decide)
 rename_i hk
 rw[if_neg hk]
 split at hz
 ·rename_i hd;exact absurd hz hd
 rename_i hd
 rw[if_neg hd]
 have hs:=h.slot
 have hk7:(XS d o).kind<=7:=by show o.kind<=7;omega
 refine ⟨zoM h.wi _ hk7,doB h.wi h.wb _ ho hk7,by simp;exact h.ops,by have:=h.diags;simp only;omega,?_⟩
 simp only
 unfold XS
 simp only
 split<;>split<;>omega
theorem zj9 {N:Nat} {d:jG} (h:Xz N d) {i:Nat} {o:OpV} (ho:o.d.length<=5000):Xz (N+1) (zf0 d i o):=by
 unfold zf0
 split
 ·exact h.up
 ·split
  ·exact zmn h ho
  ·have:=h.up
   exact ⟨this.wi,this.wb,this.ops,by unfold HH;simp;exact h.diags,this.slot⟩
theorem zm2 {w:jt} (h:okW w) (hl:Vr w.kept<=1073741824) {l:List OpV} (hd:∀ o∈l,o.d.length<=5000):∀ i,Xz i (mkD w l i)
 | 0=>⟨zot h,zob h,Nat.zero_le _,Nat.zero_le _,(xf h.2.2.2.2.1).1,by show Vr w.kept<=_;omega⟩
 | i+1=>by
  have ih:=zm2 h hl hd i
  show Xz (i+1) (match l[i]? with | some o=>zf0 (mkD w l i) i o | none=>mkD w l i)
  cases hg:l[i]? with
  | none=>exact ih.up
  | some o=>exact zj9 ih (hd o (List.mem_of_getElem? hg))
end
section
theorem NO {f:FsV} (h:okV f):∀ (k:Nat) (n:Int),Dep f.xs k n->zF n f.xs=true->(zg n f.xs).kind=2->∃ L:List Int,L.length=k+1/\L.Nodup/\(∀ m∈L,zF m f.xs=true)/\∀ m∈L,(zg m f.xs).kind=2/\∃ j,j<=k/\Dep f.xs j m
 | 0,n,hd,hh,hk=>⟨[n],rfl,by simp,fun m hm=>by simp at hm;subst hm;exact hh,fun m hm=>by simp at hm;subst hm;exact ⟨hk,0,Nat.le_refl _,hd⟩⟩
 | k+1,_,hd,hh,hk=>by
  generalize hn:k+1=k1 at hd
  cases hd with
  | root=>cases hn
  | @step k0 p e a b c =>
   obtain rfl:k=k0:=by omega
   obtain ⟨L,l1,l2,l3,l4⟩:=NO h k p a b (VH h b c)
   refine ⟨e.ino :: L,by simp[l1],List.nodup_cons.2 ⟨fun hm=>?_,l2⟩,fun m hm=>?_,fun m hm=>?_⟩
   ·obtain ⟨_,j,hj,hd⟩:=l4 _ hm
    have:=Hr h _ _ _ hd (.step a b c) hh hk
    omega
   ·rcases List.mem_cons.1 hm with rfl | hm
    ·exact hh
    ·exact l3 m hm
   ·rcases List.mem_cons.1 hm with rfl | hm
    ·exact ⟨hk,k+1,Nat.le_refl _,.step a b c⟩
    ·obtain ⟨q1,j,q2,q3⟩:=l4 m hm
     exact ⟨q1,j,by omega,q3⟩
theorem zdJ {f:FsV} (h:okV f) {k:Nat} {n:Int} (hd:Dep f.xs k n) (hh:zF n f.xs=true) (hk:(zg n f.xs).kind=2):k<f.xs.length:=by
 obtain ⟨L,l1,l2,l3,_⟩:=NO h k n hd hh hk
 have:=kQ l2 l3
 omega
def qV (xs:List zw):Nat->Int->List (List UInt8)->Jf
 | 0,_,_=>[]
 | m+1,n,ns=>if zF n xs then (ns,zg n xs) :: (zg n xs).es.flatMap (fun e=>qV xs m e.ino (ns++[e.name])) else []
theorem Yt {α β:Type} {l:List α} {g g':α->List β} (h:∀ a∈l,g a=g' a):l.flatMap g=l.flatMap g':=by
 induction l with
 | nil=>rfl
 | cons a r ih=>rw[List.flatMap_cons,List.flatMap_cons,h a List.mem_cons_self,ih fun b hb=>h b (List.mem_cons_of_mem _ hb)]
theorem Np {f:FsV} (h:okV f):∀ (m m' k:Nat) (n:Int) (ns:List (List UInt8)),Dep f.xs k n->k<=f.xs.length->f.xs.length+1<=m+k->f.xs.length+1<=m'+k->qV f.xs m n ns=qV f.xs m' n ns
 | 0,m',k,n,ns,hd,hk,h1,h2=>by omega
 | m+1,0,k,n,ns,hd,hk,h1,h2=>by omega
 | m+1,m'+1,k,n,ns,hd,hk,h1,h2=>by
  unfold qV
  split
  ·rename_i hh
   congr 1
   refine Yt fun e he=>?_
   have hdir:=VH h hh he
   have hlt:=zdJ h hd hh hdir
   exact Np h m m' (k+1) e.ino _ (.step hd hh he) (by omega) (by omega) (by omega)
  ·rfl
abbrev trV (xs:List zw):Int->List (List UInt8)->Jf:=qV xs (xs.length+1)
theorem zib {f:FsV} (h:okV f) {n:Int} (hh:zF n f.xs=true):∃ k,k<=f.xs.length/\Dep f.xs k n:=by
 obtain ⟨k,hd⟩:=zbp h hh
 refine ⟨k,?_,hd⟩
 cases hd with
 | root=>exact Nat.zero_le _
 | step a b c=>exact zdJ h a b (VH h b c)
theorem zjW {f:FsV} (h:okV f):yN f (trV f.xs):=⟨fun n ns hh=>by
 obtain ⟨k,hk,hd⟩:=zib h hh
 show qV f.xs (f.xs.length+1) n ns=_
 rw[qV,if_pos hh]
 congr 1
 refine Yt fun e he=>?_
 have hlt:=zdJ h hd hh (VH h hh he)
 exact Np h _ _ (k+1) e.ino _ (.step hd hh he) (by omega) (by omega) (by omega),fun n ns hh=>by
 show qV f.xs (f.xs.length+1) n ns=_
 rw[qV,if_neg (by rw[hh];decide)]⟩
theorem zkX {f:FsV} (h:okV f):zeM f (trV f.xs):=by
 obtain ⟨p0,p1,p2,p3,_⟩:=qx h
 exact ⟨zjW h,p0,p1.2.2.2.2.2.2.1,p3,fun x hx hk=>((p2 x hx).2.1 hk).1⟩
end
section
theorem kJ (ns:List (List UInt8)) (x:List UInt8) (hne:∀ y∈ns,y≠[]):qF (ns++[x])=jU (qF ns) x:=by
 have hj:=NB (ns++[x]) ns.length x (by simp)
 rw[List.take_of_length_le (by simp),List.take_left' rfl]at hj
 unfold qF
 rw[if_neg (by simp),hj]
 by_cases h:ns = []
 ·subst h;rfl
 ·have hl:ns.length≠0:=fun h0=>h (List.eq_nil_of_length_eq_zero h0)
  rw[if_neg hl,if_neg h]
  have hne47:(47 :: Lib.join ns [47])≠[47]:=fun he=>by
   have h1:Lib.join ns [47] = []:=(List.cons.inj he).2
   have h2:=XF ns h
   rw[h1]at h2
   cases ns with
   | nil=>exact h rfl
   | cons y r =>
    have:=List.length_pos_iff.2 (hne y List.mem_cons_self)
    simp at h2;omega
  unfold jU
  rw[if_neg hne47]
  simp
theorem zkc {f:FsV} (h:okV f) {n:Int} (hh:zF n f.xs=true) {e:zX} (he:e∈(zg n f.xs).es):e.name≠[]:=fun hn=>by
 obtain ⟨_,_,h2,_⟩:=qx h
 obtain ⟨hm,_⟩:=qG hh
 obtain ⟨i,hi,rfl⟩:=List.getElem_of_mem he
 have:=(((h2 _ hm).2.2.1 (VH h hh (List.getElem_mem hi))).2 i hi).1
 rw[hn]at this
 simp[may]at this
theorem kF {f:FsV} (h:okV f):∀ (m:Nat) (n:Int) (ns:List (List UInt8)),(∀ y∈ns,y≠[])->JI f.xs m n (qF ns)=(qV f.xs m n ns).map zcs
 | 0,n,ns,_=>rfl
 | m+1,n,ns,hne=>by
  unfold JI qV
  split
  ·rename_i hh
   obtain ⟨_,hi⟩:=qG hh
   rw[List.map_cons,List.map_flatMap,show zcs (ns,zg n f.xs)=⟨qF ns,n⟩ by simp[zcs,hi]]
   congr 1
   refine Yt fun e he=>?_
   have hn:=zkc h hh he
   rw[←kJ ns e.name hne]
   exact kF h m e.ino _ fun y hy=>by
    rcases List.mem_append.1 hy with hy | hy
    ·exact hne y hy
    ·simp at hy;subst hy;exact hn
  ·rfl
theorem GB {f:FsV} (h:okV f):Mo f.xs=(trV f.xs 1 []).map zcs:=kF h _ 1 [] fun y hy=>by cases hy
theorem ur {n:Int} {l:Jf}:Y5 n (l.map zcs)=Qi n l:=by
 unfold Y5 Qi
 rw[List.filter_map,List.map_map]
 rfl
end
section
inductive Anc (xs:List zw) (n:Int):Nat->Int->Prop
 | same:Anc xs n 0 n
 | step {j:Nat} {p:Int} {e:zX}:Anc xs n j p->zF p xs=true->e∈(zg p xs).es->Anc xs n (j+1) e.ino
theorem Anc.dep {xs:List zw} {n:Int} {k:Nat} (hd:Dep xs k n):∀ {j:Nat} {d:Int},Anc xs n j d->Dep xs (k+j) d
 | _,_,.same=>hd
 | _,_,.step a b c=>.step (a.dep hd) b c
theorem Anc.up {xs:List zw} {n:Int} {e:zX} (hh:zF n xs=true) (he:e∈(zg n xs).es):∀ {j:Nat} {d:Int},Anc xs e.ino j d->Anc xs n (j+1) d
 | _,_,.same=>.step .same hh he
 | _,_,.step a b c=>.step (a.up hh he) b c
theorem YR {xs:List zw}:∀ (m:Nat) (n:Int) (ns:List (List UInt8)),∀ p∈qV xs m n ns,∃ j,Anc xs n j p.2.ino/\zF p.2.ino xs=true/\zg p.2.ino xs=p.2
 | 0,n,ns,p,hp=>by cases hp
 | m+1,n,ns,p,hp=>by
  unfold qV at hp
  split at hp
  ·rename_i hh
   obtain ⟨_,hi⟩:=qG hh
   rcases List.mem_cons.1 hp with rfl | hp
   ·exact ⟨0,by rw[hi];exact .same,by rw[hi];exact hh,by rw[hi]⟩
   ·obtain ⟨e,he,hp⟩:=List.mem_flatMap.1 hp
    obtain ⟨j,q1,q2⟩:=YR m _ _ p hp
    exact ⟨j+1,q1.up hh he,q2⟩
  ·cases hp
theorem yU {f:FsV} (h:okV f) {a b:Int}:∀ (j:Nat) (d:Int),Anc f.xs a j d->Anc f.xs b j d->zF d f.xs=true->(zg d f.xs).kind=2->a=b/\zF a f.xs=true/\(zg a f.xs).kind=2
 | 0,d,h1,h2,hh,hk=>by
  cases h1;cases h2
  exact ⟨rfl,hh,hk⟩
 | j+1,d,h1,h2,hh,hk=>by
  obtain ⟨_,_,_,_,h4,_⟩:=qx h
  cases h1 with
  | @step _ p e x y z =>
   generalize hn:e.ino=d at h2 hh hk
   cases h2 with
   | @step _ p' e' x' y' z' =>
    have hp:=QH y z
    have hp':=QH y' z'
    rw[hn]at hp
    obtain ⟨hm,hi⟩:=qG hh
    have hq:=(h4 _ hm).2
    rw[hi,if_neg (Jq h y' z')]at hq
    have:=zez hp hp' (hq.2 hk).1
    subst this
    exact yU h j p x x' y (VH h y z)
theorem zkJ {xs:List zw} {n:Int} {e e':zX} (hh:zF n xs=true) (hs:[e,e'].Sublist (zg n xs).es) (hi:e.ino=e'.ino):2<=Z8 e.ino (qp xs):=by
 obtain ⟨hm,hino⟩:=qG hh
 have h1:([e,e'].map fun e=>(e.ino,(zg n xs).ino)).Sublist (Z6 (zg n xs) (zg n xs).es):=hs.map _
 obtain ⟨i,hi',hx⟩:=List.getElem_of_mem hm
 have h2:(Z6 (zg n xs) (zg n xs).es).Sublist (qp xs):=by
  obtain ⟨s,t,hst⟩:=List.append_of_mem hm
  unfold qp
  conv=>rhs;rw[hst]
  rw[List.flatMap_append,List.flatMap_cons]
  exact (List.sublist_append_left _ _).trans (List.sublist_append_right _ _)
 have h3:=((h1.trans h2).filter fun p=>p.1==e.ino).length_le
 unfold Z8
 simpa [hi] using h3
abbrev Yn (l:Jf):List Int:=(l.filter fun p=>decide (p.2.kind=2)).map fun p=>p.2.ino
theorem Vk {l:Jf} {d:Int} (h:d∈Yn l):∃ p∈l,p.2.kind=2/\p.2.ino=d:=by
 obtain ⟨p,hp,rfl⟩:=List.mem_map.1 h
 obtain ⟨h1,h2⟩:=List.mem_filter.1 hp
 exact ⟨p,h1,of_decide_eq_true h2,rfl⟩
theorem XK {f:FsV} (h:okV f):∀ (m:Nat) (n:Int) (ns:List (List UInt8)),zF n f.xs=true->(Yn (qV f.xs m n ns)).Nodup
 | 0,n,ns,_=>List.nodup_nil
 | m+1,n,ns,hh=>by
  obtain ⟨k,hd⟩:=zbp h hh
  obtain ⟨_,_,_,h3,h4,_⟩:=qx h
  obtain ⟨hm,hi⟩:=qG hh
  have key:∀ L:List zX,L.Sublist (zg n f.xs).es->(Yn (L.flatMap fun e=>qV f.xs m e.ino (ns++[e.name]))).Nodup:=by
   intro L
   induction L with
   | nil=>intro _;exact List.nodup_nil
   | cons e r ih =>
    intro hs
    have he:e∈(zg n f.xs).es:=hs.subset List.mem_cons_self
    have hr:r.Sublist (zg n f.xs).es:=(List.sublist_cons_self e r).trans hs
    have hap:Yn ((e :: r).flatMap fun e=>qV f.xs m e.ino (ns++[e.name]))=Yn (qV f.xs m e.ino (ns++[e.name]))++Yn (r.flatMap fun e=>qV f.xs m e.ino (ns++[e.name])):=by
     rw[List.flatMap_cons];unfold Yn;rw[List.filter_append,List.map_append]
    rw[hap,List.nodup_append]
    refine ⟨XK h m e.ino _ (h3 _ hm e he),ih hr,fun d hd1 d' hd2 hdd=>?_⟩
    subst hdd
    obtain ⟨p,p1,p2,rfl⟩:=Vk hd1
    obtain ⟨p',p1',p2',p3'⟩:=Vk hd2
    obtain ⟨e',he',p1'⟩:=List.mem_flatMap.1 p1'
    obtain ⟨j,a1,a2,a3⟩:=YR m _ _ p p1
    obtain ⟨j',b1,b2,b3⟩:=YR m _ _ p' p1'
    rw[p3']at b1
    have hk:(zg p.2.ino f.xs).kind=2:=by rw[a3];exact p2
    have hdep:=Hr h _ _ _ (a1.dep (.step hd hh he)) (b1.dep (.step hd hh (hr.subset he'))) a2 hk
    obtain rfl:j=j':=by omega
    obtain ⟨q1,q2,q3⟩:=yU h j _ a1 b1 a2 hk
    have hs2:[e,e'].Sublist (zg n f.xs).es:=(List.Sublist.cons_cons e (List.singleton_sublist.2 he')).trans hs
    have h2:=zkJ hh hs2 q1
    obtain ⟨hm2,hi2⟩:=qG q2
    have hq:=(h4 _ hm2).2
    rw[hi2,if_neg (Jq h hh he)]at hq
    have:=(hq.2 q3).1
    omega
  unfold qV
  rw[if_pos hh]
  by_cases hk:(zg n f.xs).kind=2
  ·have hc:Yn ((ns,zg n f.xs) :: (zg n f.xs).es.flatMap fun e=>qV f.xs m e.ino (ns++[e.name]))=n :: Yn ((zg n f.xs).es.flatMap fun e=>qV f.xs m e.ino (ns++[e.name])):=by
    unfold Yn
    rw[List.filter_cons_of_pos (by simpa using hk),List.map_cons,hi]
   rw[hc,List.nodup_cons]
   refine ⟨fun hmem=>?_,key _ (List.Sublist.refl _)⟩
   obtain ⟨p,p1,p2,p3⟩:=Vk hmem
   obtain ⟨e,he,p1⟩:=List.mem_flatMap.1 p1
   obtain ⟨j,a1,a2,a3⟩:=YR m _ _ p p1
   rw[p3]at a1
   have:=Hr h _ _ _ (a1.dep (.step hd hh he)) hd hh hk
   omega
  ·have hc:Yn ((ns,zg n f.xs) :: (zg n f.xs).es.flatMap fun e=>qV f.xs m e.ino (ns++[e.name]))=Yn ((zg n f.xs).es.flatMap fun e=>qV f.xs m e.ino (ns++[e.name])):=by
    unfold Yn
    rw[List.filter_cons_of_neg (by simpa using hk)]
   rw[hc]
   exact key _ (List.Sublist.refl _)
end
section
def VE (l:Jf):Nat:=(l.map fun p=>p.2.es.length).sum
theorem zdo (a b:Jf):VE (a++b)=VE a+VE b:=by unfold VE;rw[List.map_append,List.sum_append]
theorem vc {xs:List zw}:∀ (m:Nat) (n:Int) (ns:List (List UInt8)),(qV xs m n ns).length<=1+VE (qV xs m n ns)
 | 0,n,ns=>Nat.zero_le _
 | m+1,n,ns=>by
  unfold qV
  split
  ·have key:∀ L:List zX,(L.flatMap fun e=>qV xs m e.ino (ns++[e.name])).length<=L.length+VE (L.flatMap fun e=>qV xs m e.ino (ns++[e.name])):=by
    intro L
    induction L with
    | nil=>exact Nat.le_refl _
    | cons e r ih =>
     rw[List.flatMap_cons,List.length_append,zdo,List.length_cons]
     have:=vc (xs:=xs) m e.ino (ns++[e.name])
     omega
   have:=key (zg n xs).es
   have hs:∀ l:Jf,VE ((ns,zg n xs) :: l)=(zg n xs).es.length+VE l:=fun l=>by unfold VE;rw[List.map_cons,List.sum_cons]
   rw[List.length_cons,hs]
   omega
  ·exact Nat.zero_le _
theorem zf6 {l:Jf} (h:∀ p∈l,p.2.es.length<=40/\(p.2.kind≠2->p.2.es = [])):VE l<=40*(Yn l).length:=by
 induction l with
 | nil=>exact Nat.zero_le _
 | cons p r ih =>
  have hp:=h p List.mem_cons_self
  have ih:=ih fun q hq=>h q (List.mem_cons_of_mem _ hq)
  unfold VE at ih ⊢
  rw[List.map_cons,List.sum_cons]
  unfold Yn at ih ⊢
  by_cases hk:p.2.kind=2
  ·rw[List.filter_cons_of_pos (by simpa using hk),List.map_cons,List.length_cons];omega
  ·rw[List.filter_cons_of_neg (by simpa using hk),hp.2 hk]
   simpa using ih
theorem y6 {f:FsV} (h:okV f) (m:Nat) (n:Int) (ns:List (List UInt8)):(qV f.xs m n ns).length<=1601:=by
 obtain ⟨h0,_,h2,_⟩:=qx h
 cases hh:zF n f.xs with
 | false =>
  cases m with
  | zero=>exact Nat.zero_le _
  | succ m=>unfold qV;rw[hh];exact Nat.zero_le _
 | true =>
  have h1:=vc (xs:=f.xs) m n ns
  have hg:∀ p∈qV f.xs m n ns,p.2∈f.xs:=fun p hp=>by
   obtain ⟨j,_,q2,q3⟩:=YR m n ns p hp
   rw[←q3];exact (qG q2).1
  have hs:=zf6 (l:=qV f.xs m n ns) fun p hp=>⟨(h0.2 _ (hg p hp)).2.1,fun hk=>((h2 _ (hg p hp)).2.1 hk).1⟩
  have hd:=kQ (XK h m n ns hh) fun d hd=>by
   obtain ⟨p,p1,_,rfl⟩:=Vk hd
   obtain ⟨_,_,q2,_⟩:=YR m n ns p p1
   exact q2
  have:=h0.1
  omega
def ze2 (ns:List (List UInt8)):Nat:=(ns.map fun x=>x.length+1).sum
theorem GL (ns:List (List UInt8)) (x:List UInt8):ze2 (ns++[x])=ze2 ns+(x.length+1):=by
 unfold ze2;rw[List.map_append,List.sum_append];simp
theorem Q5 {xs:List zw} (h0:U8 xs):∀ (m:Nat) (n:Int) (ns:List (List UInt8)),∀ p∈qV xs m n ns,p.1.length<=ns.length+m/\ze2 p.1<=ze2 ns+m*301
 | 0,n,ns,p,hp=>by cases hp
 | m+1,n,ns,p,hp=>by
  unfold qV at hp
  split at hp
  ·rename_i hh
   obtain ⟨hm,_⟩:=qG hh
   rcases List.mem_cons.1 hp with rfl | hp
   ·exact ⟨Nat.le_add_right _ _,Nat.le_add_right _ _⟩
   ·obtain ⟨e,he,hp⟩:=List.mem_flatMap.1 hp
    obtain ⟨q1,q2⟩:=Q5 h0 m _ _ p hp
    have:=(h0.2 _ hm).2.2 e he
    rw[GL]at q2
    rw[List.length_append,List.length_singleton]at q1
    exact ⟨by omega,by omega⟩
  ·cases hp
theorem Xr (ns:List (List UInt8)):(Lib.join ns [47]).length<=ze2 ns:=by
 by_cases h:ns = []
 ·subst h;exact Nat.zero_le _
 ·have:=XF ns h
  unfold ze2;omega
theorem zhT {f:FsV} (h:okV f) (n:Int) (ns:List (List UInt8)) (h1:ns.length<=100000) (h2:ze2 ns<=100000):x9 (trV f.xs) n ns:=by
 obtain ⟨h0,_⟩:=qx h
 refine ⟨Nat.le_trans (y6 h _ n ns) (by decide),fun p hp=>?_⟩
 obtain ⟨q1,q2⟩:=Q5 h0 _ n ns p hp
 have:=Xr p.1
 have:=h0.1
 exact ⟨by omega,by omega⟩
theorem zhp {f:FsV} (h:okV f):(Mo f.xs).length<=1000000:=by
 rw[GB h,List.length_map]
 exact Nat.le_trans (y6 h _ 1 []) (by decide)
end
section
theorem ky {xs:List zw}:∀ (m:Nat) (n:Int) (ns:List (List UInt8)) (j:Nat) (d:Int),Anc xs n j d->j<m->zF n xs=true->(∀ x∈xs,∀ e∈x.es,zF e.ino xs=true)->∃ p∈qV xs m n ns,p.2.ino=d
 | 0,n,ns,j,d,ha,hj,hh,h3=>by omega
 | m+1,n,ns,0,d,ha,hj,hh,h3=>by
  cases ha
  obtain ⟨_,hi⟩:=qG hh
  refine ⟨(ns,zg n xs),?_,hi⟩
  unfold qV
  rw[if_pos hh]
  exact List.mem_cons_self
 | m+1,n,ns,j+1,d,ha,hj,hh,h3=>by
  have key:∀ (j:Nat) (d:Int),Anc xs n (j+1) d->∃ e∈(zg n xs).es,Anc xs e.ino j d:=by
   intro j
   induction j with
   | zero =>
    intro d ha
    cases ha with
    | step a b c=>cases a;exact ⟨_,c,.same⟩
   | succ j ih =>
    intro d ha
    cases ha with
    | step a b c =>
     obtain ⟨e,he,h⟩:=ih _ a
     exact ⟨e,he,.step h b c⟩
  obtain ⟨e,he,h⟩:=key j d ha
  obtain ⟨hm,_⟩:=qG hh
  obtain ⟨p,p1,p2⟩:=ky m e.ino (ns++[e.name]) j d h (by omega) (h3 _ hm e he) h3
  refine ⟨p,?_,p2⟩
  unfold qV
  rw[if_pos hh]
  exact List.mem_cons_of_mem _ (List.mem_flatMap.2 ⟨e,he,p1⟩)
theorem zcf {xs:List zw}:∀ {k:Nat} {n:Int},Dep xs k n->Anc xs 1 k n
 | _,_,.root=>.same
 | _,_,.step a b c=>.step (zcf a) b c
theorem zid {f:FsV} (h:okV f) {n:Int} (hh:zF n f.xs=true):∃ p∈trV f.xs 1 [],p.2.ino=n:=by
 obtain ⟨_,h1,_,h3,_⟩:=qx h
 obtain ⟨k,hk,hd⟩:=zib h hh
 exact ky _ 1 [] k n (zcf hd) (by omega) h1.2.2.2.2.2.2.2.1 h3
theorem GF {f:FsV} {m:Nat} {n:Int} {ns:List (List UInt8)} {p:List (List UInt8)×zw} (hp:p∈qV f.xs m n ns):zF p.2.ino f.xs=true/\zg p.2.ino f.xs=p.2:=by
 obtain ⟨_,_,q⟩:=YR m n ns p hp
 exact q
theorem kU:∀ {l:Jf} {n:Int},(Yn l).Nodup->(∀ p∈l,p.2.ino=n->p.2.kind=2)->(∃ p∈l,p.2.ino=n)->∃ p,l.filter (fun p=>decide (p.2.ino=n)) = [p]
 | [],n,_,_,⟨p,hp,_⟩=>by cases hp
 | q :: l,n,hn,hk,hex=>by
  have hk':∀ p∈l,p.2.ino=n->p.2.kind=2:=fun p hp=>hk p (List.mem_cons_of_mem _ hp)
  by_cases hq:q.2.ino=n
  ·have hk2:=hk q List.mem_cons_self hq
   have hc:Yn (q :: l)=q.2.ino :: Yn l:=by
    unfold Yn;rw[List.filter_cons_of_pos (by simpa using hk2),List.map_cons]
   rw[hc,List.nodup_cons,hq]at hn
   have he:l.filter (fun p=>decide (p.2.ino=n)) = []:=by
    rw[List.filter_eq_nil_iff]
    intro p hp hpn
    have hpn:=of_decide_eq_true hpn
    refine hn.1 ?_
    exact List.mem_map.2 ⟨p,List.mem_filter.2 ⟨hp,by simpa using hk' p hp hpn⟩,hpn⟩
   exact ⟨q,by rw[List.filter_cons_of_pos (by simpa using hq),he]⟩
  ·have hn':(Yn l).Nodup:=by
    unfold Yn at hn ⊢
    by_cases hk2:q.2.kind=2
    ·rw[List.filter_cons_of_pos (by simpa using hk2),List.map_cons,List.nodup_cons]at hn;exact hn.2
    ·rw[List.filter_cons_of_neg (by simpa using hk2)]at hn;exact hn
   obtain ⟨p,hp,hpn⟩:=hex
   have hpl:p∈l:=by
    rcases List.mem_cons.1 hp with rfl | hp
    ·exact absurd hpn hq
    ·exact hp
   obtain ⟨p',h⟩:=kU hn' hk' ⟨p,hpl,hpn⟩
   exact ⟨p',by rw[List.filter_cons_of_neg (by simpa using hq)];exact h⟩
theorem zb7 {f:FsV} (h:okV f) {n:Int} (hh:zF n f.xs=true) (hk:(zg n f.xs).kind=2):∃ p,Qi n (trV f.xs 1 []) = [p]/\UR n (trV f.xs 1 [])=some p:=by
 obtain ⟨_,h1,_⟩:=qx h
 have hkk:∀ p∈trV f.xs 1 [],p.2.ino=n->p.2.kind=2:=fun p hp hpn=>by
  obtain ⟨_,q⟩:=GF hp
  rw[hpn]at q;rw[←q];exact hk
 obtain ⟨p,hp⟩:=kU (XK h _ 1 [] h1.2.2.2.2.2.2.2.1) hkk (zid h hh)
 refine ⟨qF p.1,by unfold Qi;rw[hp];rfl,?_⟩
 unfold UR
 have he:(fun q:List (List UInt8)×zw=>decide (q.2.ino=n)&&decide (q.2.kind=2))=fun q=>decide (q.2.ino=n)&&decide (q.2.kind=2):=rfl
 rw[←List.head?_filter]
 have hf:(trV f.xs 1 []).filter (fun q=>decide (q.2.ino=n)&&decide (q.2.kind=2))=(trV f.xs 1 []).filter fun q=>decide (q.2.ino=n):=by
  refine List.filter_congr fun q hq=>?_
  by_cases hqn:q.2.ino=n
  ·simp[hqn,hkk q hq hqn]
  ·simp[hqn]
 rw[hf,hp];rfl
end
section
theorem y7 {xs:List zw} (hm:∀ x∈xs,∀ e∈x.es,may e.name=true):∀ (m:Nat) (n:Int) (ns:List (List UInt8)),∀ p∈qV xs m n ns,∃ zs,p.1=ns++zs/\∀ z∈zs,may z=true
 | 0,n,ns,p,hp=>by unfold qV at hp;cases hp
 | m+1,n,ns,p,hp=>by
  unfold qV at hp
  split at hp
  ·rename_i hh
   rcases List.mem_cons.1 hp with rfl | hp
   ·exact ⟨[],by simp,fun z hz=>by cases hz⟩
   ·obtain ⟨e,he,hp⟩:=List.mem_flatMap.1 hp
    obtain ⟨zs,h1,h2⟩:=y7 hm m e.ino _ p hp
    refine ⟨e.name :: zs,by rw[h1,List.append_assoc];rfl,fun z hz=>?_⟩
    rcases List.mem_cons.1 hz with rfl | hz
    ·exact hm _ (qG hh).1 e he
    ·exact h2 z hz
  ·cases hp
theorem zdG {es:List zX} (h:Xb es):es.Pairwise fun a b=>a.name≠b.name:=by
 have key:∀ (d i:Nat) (hj:i+d+1<es.length),es[i].name<es[i+d+1].name:=by
  intro d
  induction d with
  | zero =>
   intro i hj
   have h1:=(h (i+1) hj).2.2 (by omega)
   rw[bytesLess_eq]at h1
   exact of_decide_eq_true h1
  | succ d ih =>
   intro i hj
   have h1:=(h (i+(d+1)+1) hj).2.2 (by omega)
   rw[bytesLess_eq]at h1
   have h1:=of_decide_eq_true h1
   have h2:=ih i (by omega)
   exact List.lt_trans h2 h1
 refine List.pairwise_iff_getElem.2 fun i j hi hj hij he=>?_
 obtain ⟨d,rfl⟩:∃ d,j=i+d+1:=⟨j-i-1,by omega⟩
 have h1:=key d i hj
 rw[he]at h1
 exact List.lt_irrefl _ h1
theorem x7 {f:FsV} (h:okV f):(∀ x∈f.xs,∀ e∈x.es,may e.name=true)/\∀ x∈f.xs,x.es.Pairwise fun a b=>a.name≠b.name:=by
 obtain ⟨_,_,h2,_⟩:=qx h
 have key:∀ x∈f.xs,Xb x.es:=fun x hx=>by
  by_cases hk:x.kind=2
  ·exact ((h2 x hx).2.2.1 hk).2
  ·rw[((h2 x hx).2.1 hk).1];intro i hi;simp at hi
 refine ⟨fun x hx e he=>?_,fun x hx=>zdG (key x hx)⟩
 obtain ⟨i,hi,rfl⟩:=List.getElem_of_mem he
 exact (key x hx i hi).1
end
section
open CA CB
open Go.RowKit
def XV (p n:List UInt8):List UInt8:=if Lib.hasSuffix p [47] then p++n else p++[47]++n
theorem Ug (p n:List UInt8) (hp:p.length<=1000000) (hn:n.length<=1000000):Fun Tryz.prog G0 13 [.str p,.str n] (.str (XV p n)) 0:=by
 have h:=QT p [47] hp
 cases hs:Lib.hasSuffix p [47] with
 | true =>
  have e:XV p n=p++n:=by unfold XV;rw[hs,if_pos rfl]
  rw[hs]at h
  refine Fun.of (fun _=>[]) Tryz.func13 rfl (zp rfl) (by kernel_rfl) ?_;dsimp only[Tryz.f13]
  push_cast -dsimp
  refine cl (h) ?_;push_cast -dsimp
  (try simp only[lS]);repeat refine And.intro (by omega) ?_
  exact ⟨[],rfl,rfl,by push_cast -dsimp [zb,za,CLe,ze,e]⟩
 | false =>
  have e:XV p n=p++[47]++n:=by unfold XV;rw[hs];rfl
  rw[hs]at h
  refine Fun.of (fun _=>[]) Tryz.func13 rfl (zp rfl) (by kernel_rfl) ?_;dsimp only[Tryz.f13]
  push_cast -dsimp
  refine cl (h) ?_;push_cast -dsimp
  (try simp only[lS]);repeat refine And.intro (by omega) ?_
  exact ⟨[],rfl,rfl,by push_cast -dsimp [zb,za,CLe,ze,e]⟩
theorem kA (p n:List UInt8) (hp:p.length<=1000000) (hn:n.length<=1000000):Fun Tryz.prog G0 14 [.str p,.str n] (.str (XV p n)) 0:=by
 rcases List.eq_nil_or_concat p with rfl | ⟨l,b,rfl⟩
 ·have e:XV [] n = []++[47]++n:=rfl
  refine Fun.of (fun _=>[]) Tryz.func14 rfl (zp rfl) (by kernel_rfl) ?_;dsimp only[Tryz.f14]
  push_cast -dsimp
  (try simp only[lS]);repeat refine And.intro (by omega) ?_
  exact ⟨[],rfl,rfl,by push_cast -dsimp [zb,za,CLe,ze,e]⟩
 ·rw[List.concat_eq_append]at hp ⊢
  have hll:((l++[b]).length:Int)=(l.length:Int)+1:=by simp
  have hpos:((0:Int)<(l.length:Int)+1)=True:=eq_true (by omega)
  have hm1:(l.length:Int)+1-1=(l.length:Int):=by omega
  have hb:(l++[b])[l.length]?=some b:=by simp
  have hsx:Lib.hasSuffix (l++[b]) [47]=decide (b=47):=He l b
  by_cases h:b=47
  ·have e:XV (l++[b]) n=l++[b]++n:=by unfold XV;rw[hsx,if_pos (decide_eq_true h)]
   have h':((b.toNat:Int)=47)=True:=eq_true (by rw[h];rfl)
   generalize l++[b]=p at *
   refine Fun.of (fun _=>[]) Tryz.func14 rfl (zp rfl) (by kernel_rfl) ?_;dsimp only[Tryz.f14]
   push_cast -dsimp [hll,hpos,hm1,Int.toNat_natCast,hb,h']
   (try simp only[lS]);repeat refine And.intro (by omega) ?_
   exact ⟨[],rfl,rfl,by push_cast -dsimp [zb,za,CLe,ze,e]⟩
  ·have e:XV (l++[b]) n=l++[b]++[47]++n:=by unfold XV;rw[hsx,if_neg (by simpa using h)]
   have h':((b.toNat:Int)=47)=False:=eq_false (xW h)
   generalize l++[b]=p at *
   refine Fun.of (fun _=>[]) Tryz.func14 rfl (zp rfl) (by kernel_rfl) ?_;dsimp only[Tryz.f14]
   push_cast -dsimp [hll,hpos,hm1,Int.toNat_natCast,hb,h']
   (try simp only[lS]);repeat refine And.intro (by omega) ?_
   exact ⟨[],rfl,rfl,by push_cast -dsimp [zb,za,CLe,ze,e]⟩
theorem zio {f:FsV} (h:okV f) {n:Int} (hh:zF n f.xs=true) (hk:(zg n f.xs).kind=2) :
  ∃ ns,(∀ z∈ns,may z=true)/\ns.length<=41/\ze2 ns<=20000/\Qi n (trV f.xs 1 []) = [qF ns]/\UR n (trV f.xs 1 [])=some (qF ns):=by
 obtain ⟨h0,h1,_⟩:=qx h
 have hkk:∀ p∈trV f.xs 1 [],p.2.ino=n->p.2.kind=2:=fun p hp hpn=>by
  obtain ⟨_,q⟩:=GF hp
  rw[hpn]at q;rw[←q];exact hk
 obtain ⟨p,hp⟩:=kU (XK h _ 1 [] h1.2.2.2.2.2.2.2.1) hkk (zid h hh)
 obtain ⟨q,q1,q2⟩:=zb7 h hh hk
 have hq:Qi n (trV f.xs 1 []) = [qF p.1]:=by unfold Qi;rw[hp];rfl
 rw[hq]at q1
 have hqe:qF p.1=q:=by simpa using q1
 have hpm:p∈trV f.xs 1 []:=(List.mem_filter.1 (by rw[hp];exact List.mem_singleton.2 rfl)).1
 obtain ⟨zs,z1,z2⟩:=y7 (x7 h).1 _ 1 [] p hpm
 obtain ⟨t1,t2⟩:=Q5 h0 _ 1 [] p hpm
 have t3:=Xr p.1
 have t4:ze2 []=0:=rfl
 have h40:=h0.1
 rw[List.nil_append]at z1
 rw[←z1]at z2
 simp only[List.length_nil,t4]at t1 t2
 exact ⟨p.1,z2,by omega,by omega,hq,by rw[q2,hqe]⟩
theorem Mc (ns:List (List UInt8)) (x:List UInt8) (h:∀ z∈ns,may z=true):XV (qF ns) x=jU (qF ns) x:=by
 by_cases h0:ns = []
 ·subst h0;rfl
 ·have hs:Lib.hasSuffix (qF ns) [47]=false:=by
   have:=zcg true ns false fun z hz=>HE (h z hz)
   have e:put true ns false=qF ns:=by unfold put qF;rw[if_neg h0];simp
   rw[e,decide_eq_false h0]at this
   simpa using this
  have hne:qF ns≠[47]:=fun e=>by
   rw[e]at hs
   exact absurd hs (by decide)
  unfold XV jU
  rw[hs,if_neg hne];rfl
def ZZ (f:FsV) (s:qk):List UInt8:=jU ((UR s.dir (trV f.xs 1 [])).getD []) s.name
theorem GS (f:FsV) (h:okV f) (s:qk) (hh:zF s.dir f.xs=true) (hk:(zg s.dir f.xs).kind=2) (hm:may s.name=true):Fun Tryz.prog G0 17 [.agg (fsC f),.agg (j0 s)] (.str (ZZ f s)) 0:=by
 obtain ⟨ns,n1,n2,n3,n4,n5⟩:=zio h hh hk
 have hp:=xk f s.dir _ (zkX h) (zhT h 1 [] (by decide) (by decide))
 have hml:=Hz hm
 have hjw:=Xr ns
 have hjl:(qF ns).length<=20001:=by unfold qF;split<;>simp<;>omega
 have hr:=zfF (qF ns) (by omega)
 unfold UG at hr
 rw[yi ns fun z hz=>HE (n1 z hz)]at hr
 have hj:=XB (ns++[s.name]) (by simp;omega) (by
  have a1:=Xr (ns++[s.name])
  rw[GL]at a1
  omega)
 rw[kJ ns s.name fun y hy=>(HE (n1 y hy)).1]at hj
 have e:ZZ f s=jU (qF ns) s.name:=by unfold ZZ;rw[n5];rfl
 rw[n5]at hp
 have hsl:(qA ns).length=ns.length:=List.length_map ..
 refine Fun.of (fun i=>if i=2 then [false,false,false,false,false,false,true,false,false] else []) Tryz.func17 rfl (zp rfl) (by kernel_rfl) ?_;dsimp only[Tryz.f17]
 push_cast -dsimp
 refine cl (hp) ?_;push_cast -dsimp [Option.getD_some,Option.isSome_some]
 refine cl (hr) ?_;push_cast -dsimp
 (try simp only[lS]);repeat refine And.intro (by omega) ?_
 refine cl (hj) ?_;push_cast -dsimp
 exact ⟨[],rfl,rfl,by push_cast -dsimp [zb,za,CLe,ze,e]⟩
theorem zeA (f:FsV) (h:okV f) (s:qk) (hh:zF s.dir f.xs=true) (hk:(zg s.dir f.xs).kind=2) (hm:may s.name=true):Fun Tryz.prog G0 18 [.agg (fsC f),.agg (j0 s)] (.str (ZZ f s)) 0:=by
 obtain ⟨ns,n1,n2,n3,n4,n5⟩:=zio h hh hk
 have hp:=zcZ (G:=G0) f s.dir (qx h).1 (zhp h)
 rw[GB h,ur,n4]at hp
 have hml:=Hz hm
 have hjw:=Xr ns
 have hjl:(qF ns).length<=20001:=by unfold qF;split<;>simp<;>omega
 have hj:=kA (qF ns) s.name (by omega) (by omega)
 rw[Mc ns s.name n1]at hj
 have e:ZZ f s=jU (qF ns) s.name:=by unfold ZZ;rw[n5];rfl
 refine Fun.of (fun _=>[]) Tryz.func18 rfl (zp rfl) (by kernel_rfl) ?_;dsimp only[Tryz.f18]
 push_cast -dsimp
 refine cl (hp) ?_;push_cast -dsimp
 refine cl (hj) ?_;push_cast -dsimp
 exact ⟨[],rfl,rfl,by push_cast -dsimp [zb,za,CLe,ze,e]⟩
end
section
open CA CB
open Go.RowKit
theorem Fun.gd0 {f:FuncId} {args:List C} {r:C} {n:Nat} (h:Fun Tryz.prog G0 f args r n):Fun Tryz.prog GD f args r n:=h.glob0
theorem znh (o:OpV):opL o = [.sc (.int .i64 o.kind),.sc (.int .i64 o.slot),.str o.a,.str o.b,.str o.d]:=rfl
theorem OpS.short {o:OpV} (h:OpS o):short o:=⟨by have:=h.a;omega,by have:=h.b;omega,by have:=h.d;omega⟩
end
section
open CA CB
open Go.RowKit
def kH:FsV:=⟨4,9,9,[⟨1,2,0,[],1,[⟨[97],4⟩,⟨[98],3⟩]⟩,⟨3,1,1,[121],0,[]⟩,⟨4,1,1,[122],0,[]⟩]⟩
def Y4:jt:=⟨kH,[],[]⟩
def yn:List OpV:=[⟨7,0,[47,97],[],[]⟩,⟨7,99,[47,98],[],[]⟩,⟨8,0,[47,98],[],[]⟩]
theorem Qd:okW Y4:=by decide
theorem zeQ:okV kH:=⟨Qd.1.2.1,Qd.2.1⟩
theorem MP:Fun Tryz.prog G0 29 [] (X9 Y4) 0:=by
 have h1:=zf3 (G:=G0) 4 9
 have h2:=yt (G:=G0) ⟨4,9,9,[⟨1,2,0,[],1,[]⟩]⟩ ⟨1,2,0,[],1,[⟨[97],4⟩,⟨[98],3⟩]⟩ (by decide)
 have h3:=yo (G:=G0) ⟨4,9,9,[⟨1,2,0,[],1,[⟨[97],4⟩,⟨[98],3⟩]⟩]⟩ ⟨3,1,1,[121],0,[]⟩ rfl (by decide)
 have h4:=yo (G:=G0) ⟨4,9,9,[⟨1,2,0,[],1,[⟨[97],4⟩,⟨[98],3⟩]⟩,⟨3,1,1,[121],0,[]⟩]⟩ ⟨4,1,1,[122],0,[]⟩ rfl (by decide)
 have e2:qP ⟨1,2,0,[],1,[⟨[97],4⟩,⟨[98],3⟩]⟩ [⟨1,2,0,[],1,[]⟩] = [⟨1,2,0,[],1,[⟨[97],4⟩,⟨[98],3⟩]⟩]:=by decide
 have e3:qP ⟨3,1,1,[121],0,[]⟩ [⟨1,2,0,[],1,[⟨[97],4⟩,⟨[98],3⟩]⟩] = [⟨1,2,0,[],1,[⟨[97],4⟩,⟨[98],3⟩]⟩,⟨3,1,1,[121],0,[]⟩]:=by decide
 have e4:qP ⟨4,1,1,[122],0,[]⟩ [⟨1,2,0,[],1,[⟨[97],4⟩,⟨[98],3⟩]⟩,⟨3,1,1,[121],0,[]⟩]=kH.xs:=by decide
 simp only[e2]at h2
 simp only[e3]at h3
 simp only[e4]at h4
 refine Fun.of (fun _=>[]) Tryz.func29 rfl (zp rfl) (by kernel_rfl) ?_;dsimp only[Tryz.f29]
 push_cast -dsimp
 refine cl (h1) ?_;push_cast -dsimp
 refine cl (h2) ?_;push_cast -dsimp
 refine cl (h3) ?_;push_cast -dsimp
 refine cl (h4) ?_;push_cast -dsimp
 exact ⟨[],rfl,rfl,by push_cast -dsimp [zb,za,CLe,ze,Y4,kH]⟩
theorem Hs (i:Nat) (hi:i<=3):Uf (mkD Y4 yn i):=(zm2 Qd (by decide) (fun o ho=>by
 have:∀ o∈yn,o.d.length<=5000:=by decide
 exact this o ho) i).s (by omega)
theorem zn2:ZZ kH ⟨1,[110],0⟩ = [47,110]:=by decide
end
section
open CA CB
open Go.RowKit
theorem je:Fun Tryz.prog GD 7 [] (jN true) 0:=by
 obtain ⟨d1,hd1⟩:∃ d,(X0 (zh5 Y4) ⟨7,0,[47,97],[],[]⟩).1=d:=⟨_,rfl⟩
 obtain ⟨d2,hd2⟩:∃ d,(X0 d1 ⟨7,99,[47,98],[],[]⟩).1=d:=⟨_,rfl⟩
 have s0:Uf (zh5 Y4):=Hs 0 (by decide)
 have s1:Uf d1:=by
  have e:mkD Y4 yn 1=d1:=by rw[←hd1];decide
  rw[←e];exact Hs 1 (by decide)
 have s2:Uf d2:=by
  have e:mkD Y4 yn 2=d2:=by rw[←hd2,←hd1];decide
  rw[←e];exact Hs 2 (by decide)
 have z1:(X0 (zh5 Y4) ⟨7,0,[47,97],[],[]⟩).2=0:=by decide
 have z2:(X0 d1 ⟨7,99,[47,98],[],[]⟩).2=0:=by rw[←hd1];decide
 have z3:(X0 d2 ⟨8,0,[47,98],[],[]⟩).2=12:=by rw[←hd2,←hd1];decide
 have p1:d2.ops = [⟨7,1,[47,97],[],[]⟩,⟨7,2,[47,98],[],[]⟩]:=by rw[←hd2,←hd1];decide
 have p2:d2.slot=2:=by rw[←hd2,←hd1];decide
 have p3:d2.diags = []:=by rw[←hd2,←hd1];decide
 have p4:(zh5 Y4).slot=0:=rfl
 have p5:UV 2 2 [120] [] 1 = [114,109,58,32,99,97,110,110,111,116,32,114,101,109,111,118,101,32,34,120,34,58,32,78,111,32,115,117,99,104,32,102,105,108,101,32,111,114,32,100,105,114,101,99,116,111,114,121]:=by decide
 have q0:=(zhW (G:=G0) Y4 (by decide)).gd0
 have q1:=yv (zh5 Y4) s0 ⟨7,0,[47,97],[],[]⟩ ⟨by decide,by decide,by decide⟩ (by decide) z1
 have q2:=yv d1 s1 ⟨7,99,[47,98],[],[]⟩ ⟨by decide,by decide,by decide⟩ (by decide) z2
 have q3:=ziG d2 s2 ⟨8,0,[47,98],[],[]⟩ ⟨by decide,by decide,by decide⟩ (by decide) (by rw[z3];decide) _ _ rfl rfl
 have q4:=zbQ d2 (by rw[p3];decide) 2 2 [120] [] 1 (by decide) (by decide)
 have hsm:=MP.gd0
 have q5:=(GS kH zeQ ⟨1,[110],0⟩ (by decide) (by decide) (by decide)).gd0
 have q6:=(Ug [97] [98] (by decide) (by decide)).gd0
 have q7:=(Ug [97,47] [98] (by decide) (by decide)).gd0
 rw[hd1]at q1
 rw[hd2]at q2
 rw[z3]at q3
 rw[p5]at q4
 rw[zn2]at q5
 rw[show XV [97] [98] = [97,47,98] from rfl]at q6
 rw[show XV [97,47] [98] = [97,47,98] from rfl]at q7
 rw[znh]at q1 q2 q3
 have p6:(HH d2 ([114,109,58,32,99,97,110,110,111,116,32,114,101,109,111,118,101,32,34,120,34,58,32,78,111,32,115,117,99,104,32,102,105,108,101,32,111,114,32,100,105,114,101,99,116,111,114,121])).diags = [[114,109,58,32,99,97,110,110,111,116,32,114,101,109,111,118,101,32,34,120,34,58,32,78,111,32,115,117,99,104,32,102,105,108,101,32,111,114,32,100,105,114,101,99,116,111,114,121]]:=by unfold HH;rw[p3];rfl
 have p7:(HH d2 ([114,109,58,32,99,97,110,110,111,116,32,114,101,109,111,118,101,32,34,120,34,58,32,78,111,32,115,117,99,104,32,102,105,108,101,32,111,114,32,100,105,114,101,99,116,111,114,121])).status=1:=rfl
 rw[p6]at q4
 simp only[znX,zpu,znz,p1,p2,List.map_cons,List.map_nil]at q2 q3 q4
 refine Fun.of (fun _=>[]) Tryz.func7 rfl (zp rfl) (by kernel_rfl) ?_;dsimp only[Tryz.f7]
 dsimp only[List.append_eq,List.cons_append,List.nil_append]
 push_cast -dsimp
 refine cl (hsm) ?_;push_cast -dsimp
 refine cl (q0) ?_;push_cast -dsimp
 refine cl (q1) ?_;push_cast -dsimp
 refine cl (q2) ?_;push_cast -dsimp
 refine cl (q3) ?_;push_cast -dsimp
 refine cl (q4) ?_;push_cast -dsimp [p4,p7,opL]
 refine cl (q5) ?_;push_cast -dsimp
 refine cl (q6) ?_;push_cast -dsimp
 refine cl (q7) ?_;push_cast -dsimp
 exact ⟨[],rfl,rfl,by push_cast -dsimp [zb,za,CLe,ze]⟩
end
section
open Go.RowKit Go.ChangeMaps Go.ChangeShapes Go.WideShapes Go.Deep Go.Joins
section
variable {H:Type} {enc:TypeId×Value->H} {W:World}
end
theorem zok {W:World} {l:List (String×DataW Unit)} (h:laidMetH Tryz.prog l W) (hp:(l.filter fun x=>x.2.handleName?.isSome) = []) (hm:("drayman/op.has",Rows.laid_drayman_op_has)∈l):Y7 G1 (NF W):=fun g cs hc=>by
 unfold G1 at hc
 split at hc
 ·rename_i hg
  subst hg
  cases hc
  exact Jj (t:=181) h hp hm (by kernel_rfl) (by kernel_rfl) (m:=4) (by kernel_rfl) (by kernel_rfl) (by kernel_rfl)
 ·cases hc
theorem zoA {W:World} {l:List (String×DataW Unit)} (h:laidMetH Tryz.prog l W) (hp:(l.filter fun x=>x.2.handleName?.isSome) = []) (hm1:("drayman/diag.phrases",Rows.laid_drayman_diag_phrases)∈l) (hm2:("drayman/args.kinds",Rows.laid_drayman_args_kinds)∈l) (hm3:("drayman/errs.messages",Rows.laid_drayman_errs_messages)∈l):Y7 G2 (NF W):=fun g cs hc=>by
 unfold G2 at hc
 split at hc
 ·rename_i hg
  subst hg
  cases hc
  exact Jj (t:=190) h hp hm1 (by kernel_rfl) (by kernel_rfl) (m:=4) (vs:=phr.map fun l=>Value.string ⟨l.toArray⟩) (by kernel_rfl) (by kernel_rfl) (by kernel_rfl)
 ·split at hc
  ·rename_i hg
   subst hg
   cases hc
   exact Jj (t:=189) h hp hm2 (by kernel_rfl) (by kernel_rfl) (m:=4) (by kernel_rfl) (by kernel_rfl) (by kernel_rfl)
  ·split at hc
   ·rename_i hg
    subst hg
    cases hc
    exact Jj (t:=231) h hp hm3 (by kernel_rfl) (by kernel_rfl) (m:=4) (vs:=zpl.map fun l=>Value.string ⟨l.toArray⟩) (by kernel_rfl) (by kernel_rfl) (by kernel_rfl)
   ·cases hc
theorem zoU {W:World} {l:List (String×DataW Unit)} (h:laidMetH Tryz.prog l W) (hp:(l.filter fun x=>x.2.handleName?.isSome) = []) (hm:("drayman/op.has",Rows.laid_drayman_op_has)∈l) (hm1:("drayman/diag.phrases",Rows.laid_drayman_diag_phrases)∈l) (hm2:("drayman/args.kinds",Rows.laid_drayman_args_kinds)∈l) (hm3:("drayman/errs.messages",Rows.laid_drayman_errs_messages)∈l):Y7 GD (NF W):=fun g cs hc=>by
 unfold GD at hc
 split at hc
 ·exact zok h hp hm g cs hc
 ·exact zoA h hp hm1 hm2 hm3 g cs hc
end
section
abbrev Zz:=List (List UInt8)
def onL (f:FsV) (follow:Bool) (lk:zw->zw->Zz->Bool->qk×Int):Zz->qk->Bool->qk×Int
 | [],s,dir=>if zF s.ino f.xs=true/\dir=true/\(zg s.ino f.xs).kind≠2 then (qL,3) else (s,0)
 | n :: r,s,dir =>
  if s.ino=0 then (qL,1)
  else if (zg s.ino f.xs).kind≠2 then (qL,3)
  else if n = [46] then onL f follow lk r ⟨0,[],(zg s.ino f.xs).ino⟩ dir
  else if n = [46,46] then onL f follow lk r ⟨0,[],(zg s.ino f.xs).parent⟩ dir
  else if Q4 n (zg s.ino f.xs).es=false∨(zg (qr n (zg s.ino f.xs).es) f.xs).kind≠3∨(r = []/\follow=false/\dir=false) then
   onL f follow lk r ⟨(zg s.ino f.xs).ino,n,qr n (zg s.ino f.xs).es⟩ dir
  else lk (zg (qr n (zg s.ino f.xs).es) f.xs) (zg s.ino f.xs) r dir
def Yv (p:List UInt8):Bool:=!decide (zE p = [])&&Lib.hasSuffix p [47]
def zbN (p:List UInt8):Bool:=Lib.hasPrefix p [47]
def onN (f:FsV) (follow:Bool):Nat->Zz->qk->Bool->qk×Int
 | 0=>onL f follow fun _ _ _ _=>(qL,6)
 | k+1=>onL f follow fun x d r dir=>if HV x.data then (qL,7) else onN f follow k (zE x.data++r) ⟨0,[],if zbN x.data then 1 else d.ino⟩ (dir||(Yv x.data&&decide (r = [])))
def Qh (f:FsV) (b:List UInt8):Int×Int:=
 if (atV f b).2≠0 then (0,(atV f b).2) else if (atV f b).1.ino=0 then (0,1) else if (zg (atV f b).1.ino f.xs).kind≠2 then (0,3) else ((zg (atV f b).1.ino f.xs).ino,0)
def YU (f:FsV) (b p:List UInt8) (follow:Bool):qk×Int:=
 if p = [] then (qL,1) else if HV p then (qL,7)
 else if zbN p then onN f follow 40 (zE p) ⟨0,[],1⟩ (Yv p)
 else if (Qh f b).2≠0 then (qL,(Qh f b).2) else onN f follow 40 (zE p) ⟨0,[],(Qh f b).1⟩ (Yv p)
def uA (f:FsV) (s:qk):Prop:=s.name = []∨(zF s.dir f.xs=true/\(zg s.dir f.xs).kind=2)
theorem vu {xs:List zw} {n:Int} (h:(zg n xs).kind=2):zF n xs=true:=by
 cases hh:zF n xs with
 | true=>rfl
 | false=>rw[(Q1 hh).2]at h;exact absurd h (by decide)
theorem Qm {f:FsV} {follow:Bool} {lk:zw->zw->Zz->Bool->qk×Int} (hl:∀ x d r dir,(lk x d r dir).2=0->uA f (lk x d r dir).1):∀ (l:Zz) (s:qk) (dir:Bool),uA f s->(onL f follow lk l s dir).2=0->uA f (onL f follow lk l s dir).1
 | [],s,dir,hs,h=>by
  unfold onL at h ⊢
  split at h
  ·exact absurd h (show ¬(3:Int)=0 by decide)
  ·rename_i hn;rw[if_neg hn];exact hs
 | n :: r,s,dir,hs,h=>by
  unfold onL at h ⊢
  by_cases h1:s.ino=0
  ·rw[if_pos h1]at h;exact absurd h (show ¬(1:Int)=0 by decide)
  rw[if_neg h1]at h ⊢
  by_cases h2:(zg s.ino f.xs).kind=2
  case neg=>rw[if_pos h2]at h;exact absurd h (show ¬(3:Int)=0 by decide)
  rw[if_neg (fun q=>q h2)]at h ⊢
  by_cases h3:n = [46]
  ·rw[if_pos h3]at h ⊢;exact Qm hl r _ dir (.inl rfl) h
  rw[if_neg h3]at h ⊢
  by_cases h4:n = [46,46]
  ·rw[if_pos h4]at h ⊢;exact Qm hl r _ dir (.inl rfl) h
  rw[if_neg h4]at h ⊢
  split at h
  ·rename_i h5
   rw[if_pos h5]
   have hh:=vu h2
   refine Qm hl r _ dir (.inr ?_) h
   simp only[(zi hh).2.2]
   exact ⟨hh,h2⟩
  ·rename_i h5
   rw[if_neg h5]
   exact hl _ _ _ _ h
theorem H9 {f:FsV} {follow:Bool}:∀ (k:Nat) (l:Zz) (s:qk) (dir:Bool),uA f s->(onN f follow k l s dir).2=0->uA f (onN f follow k l s dir).1
 | 0,l,s,dir,hs,h=>Qm (fun _ _ _ _ h=>absurd h (show ¬(6:Int)=0 by decide)) l s dir hs h
 | k+1,l,s,dir,hs,h=>Qm (fun x d r dir h=>by
   split at h
   ·exact absurd h (show ¬(7:Int)=0 by decide)
   ·rename_i hn
    rw[if_neg hn]
    exact H9 k _ _ _ (.inl rfl) h) l s dir hs h
theorem zeq {f:FsV} {b p:List UInt8} {follow:Bool} (h:(YU f b p follow).2=0):uA f (YU f b p follow).1:=by
 unfold YU at h ⊢
 split at h
 ·exact absurd h (show ¬(1:Int)=0 by decide)
 ·rename_i h1
  rw[if_neg h1]
  split at h
  ·exact absurd h (show ¬(7:Int)=0 by decide)
  ·rename_i h2
   rw[if_neg h2]
   split at h
   ·rename_i h3
    rw[if_pos h3]
    exact H9 _ _ _ _ (.inl rfl) h
   ·rename_i h3
    rw[if_neg h3]
    split at h
    ·rename_i h4;exact absurd h h4
    ·rename_i h4
     rw[if_neg h4]
     exact H9 _ _ _ _ (.inl rfl) h
end
section
open Go.RowKit
section
variable {G:zk}
theorem XH {bx:List (List C)} {i k n cap:Nat} {rows:List (List C)} {cs:List C} (hb:bx[i]?=some cs) (hn:rows.length=n) (hc:n<=cap) (hm:cap<=9223372036854775807) (hk:∀ r∈rows,r.length=k) (hs:qU rows) (ht:cs.take (n*k)=rows.flatten):JJ bx (.bs i 0 k n cap) (.sl k rows):=by
 unfold JJ
 exact ⟨rows,cs,rfl,hn,hc,by unfold maxLen;omega,hb,hk,by rw[List.drop_zero,ht,VB (YG hs)]⟩
end
end
section
open CA CB
open Go.RowKit
theorem zaC {bx:List (List C)} {c:C} (h:c.stayB=true):JJ bx c c:=by
 cases c<;>simp[C.stayB]at h<;>(unfold JJ;simp[C.frz])
theorem jx {bx:List (List C)}:∀ {cs:List C},(cs.all C.stayB)=true->Jc bx cs cs
 | [],_=>by unfold Jc;rfl
 | c :: r,h=>by
  rw[List.all_cons,Bool.and_eq_true]at h
  unfold Jc
  exact ⟨_,_,rfl,zaC h.1,jx h.2⟩
theorem zU {bx:List (List C)} {c d:C} {r s:List C} (h:JJ bx c d) (h2:Jc bx r s):Jc bx (c :: r) (d :: s):=by unfold Jc;exact ⟨_,_,rfl,h,h2⟩
theorem qH {bx:List (List C)} {cs:List C} (h:(cs.all C.stayB)=true):JJ bx (.agg cs) (.agg cs):=by unfold JJ;exact ⟨_,rfl,jx h⟩
def JF (f:FsV) (p:List UInt8):zw×Int:=if (atV f p).2≠0 then (vX,(atV f p).2) else if (atV f p).1.ino=0 then (vX,1) else (zg (atV f p).1.ino f.xs,0)
theorem zaP (f:FsV) (hf:FsI f) (hs:FsS f) (p:List UInt8) (hp:p.length<=100000):Fun Tryz.prog G0 75 [.agg (fsC f),.str p] (.tup [.agg (Xg (JF f p).1),.sc (.int .i64 (JF f p).2)]) 0:=by
 have h1:=zkM f hf hs p hp
 have h2:=Jl (G:=G0) f (atV f p).1.ino (by have:=hs.len;omega)
 by_cases c1:(atV f p).2=0
 ·by_cases c2:(atV f p).1.ino=0
  ·have e:JF f p=(vX,1):=by unfold JF;rw[if_neg (fun h=>h c1),if_pos c2]
   rw[c1]at h1
   refine Fun.of (fun _=>[]) Tryz.func75 rfl (zp rfl) (by kernel_rfl) ?_;dsimp only[Tryz.f75]
   push_cast -dsimp
   refine cl (h1) ?_;push_cast -dsimp [c2]
   exact ⟨[],rfl,rfl,by push_cast -dsimp [zb,za,CLe,ze,e,vX]⟩
  ·have e:JF f p=(zg (atV f p).1.ino f.xs,0):=by unfold JF;rw[if_neg (fun h=>h c1),if_neg c2]
   rw[c1]at h1
   refine Fun.of (fun _=>[]) Tryz.func75 rfl (zp rfl) (by kernel_rfl) ?_;dsimp only[Tryz.f75]
   push_cast -dsimp
   refine cl (h1) ?_;push_cast -dsimp [c2]
   refine cl (h2) ?_;push_cast -dsimp
   exact ⟨[],rfl,rfl,by push_cast -dsimp [zb,za,CLe,ze,e]⟩
 ·have e:JF f p=(vX,(atV f p).2):=by unfold JF;rw[if_pos c1]
  refine Fun.of (fun _=>[]) Tryz.func75 rfl (zp rfl) (by kernel_rfl) ?_;dsimp only[Tryz.f75]
  push_cast -dsimp
  refine cl (h1) ?_;push_cast -dsimp [c1]
  exact ⟨[],rfl,rfl,by push_cast -dsimp [zb,za,CLe,ze,e,vX]⟩
theorem zg5 (f:FsV) (hf:FsI f) (hs:FsS f) (p:List UInt8) (hp:p.length<=100000):Fun Tryz.prog G0 41 [.agg (fsC f),.str p] (.tup [.sc (.int .i64 (Qh f p).1),.sc (.int .i64 (Qh f p).2)]) 0:=by
 have h1:=zaP f hf hs p hp
 by_cases c1:(JF f p).2=0
 ·have d1:(atV f p).2=0/\(atV f p).1.ino≠0/\(JF f p).1=zg (atV f p).1.ino f.xs:=by
   unfold JF at c1 ⊢
   split at c1
   ·rename_i h;exact absurd c1 h
   ·rename_i h
    split at c1
    ·exact absurd c1 (show ¬(1:Int)=0 by decide)
    ·rename_i h';rw[if_neg h,if_neg h'];exact ⟨Classical.not_not.1 h,h',rfl⟩
  rw[c1]at h1
  by_cases c2:(JF f p).1.kind=2
  ·have e:Qh f p=((JF f p).1.ino,0):=by unfold Qh;rw[if_neg (fun h=>h d1.1),if_neg d1.2.1,if_neg (by rw[←d1.2.2];exact fun h=>h c2),d1.2.2]
   refine Fun.of (fun _=>[]) Tryz.func41 rfl (zp rfl) (by kernel_rfl) ?_;dsimp only[Tryz.f41]
   push_cast -dsimp
   refine cl (h1) ?_;push_cast -dsimp [c2]
   exact ⟨[],rfl,rfl,by push_cast -dsimp [zb,za,CLe,ze,e]⟩
  ·have e:Qh f p=(0,3):=by unfold Qh;rw[if_neg (fun h=>h d1.1),if_neg d1.2.1,if_pos (by rw[←d1.2.2];exact c2)]
   refine Fun.of (fun _=>[]) Tryz.func41 rfl (zp rfl) (by kernel_rfl) ?_;dsimp only[Tryz.f41]
   push_cast -dsimp
   refine cl (h1) ?_;push_cast -dsimp [c2]
   exact ⟨[],rfl,rfl,by push_cast -dsimp [zb,za,CLe,ze,e]⟩
 ·have e:Qh f p=(0,(JF f p).2):=by
   unfold Qh JF
   unfold JF at c1
   split
   ·rfl
   ·rename_i h
    rw[if_neg h]at c1
    split
    ·rfl
    ·rename_i h';rw[if_neg h']at c1;exact absurd rfl c1
  refine Fun.of (fun _=>[]) Tryz.func41 rfl (zp rfl) (by kernel_rfl) ?_;dsimp only[Tryz.f41]
  push_cast -dsimp
  refine cl (h1) ?_;push_cast -dsimp [c1]
  exact ⟨[],rfl,rfl,by push_cast -dsimp [zb,za,CLe,ze,e]⟩
def lkN (f:FsV) (follow:Bool):Nat->zw->zw->Zz->Bool->qk×Int
 | 0=>fun _ _ _ _=>(qL,6)
 | k+1=>fun x d r dir=>if HV x.data then (qL,7) else onN f follow k (zE x.data++r) ⟨0,[],if zbN x.data then 1 else d.ino⟩ (dir||(Yv x.data&&decide (r = [])))
theorem zii (f:FsV) (follow:Bool) (k:Nat):onN f follow k=onL f follow (lkN f follow k):=by cases k<;>rfl
theorem XM {A Z:List C} {n:Nat} (h:A.length=n):(A++Z).take n=A:=by rw[List.take_append,←h,List.take_of_length_le (Nat.le_refl _)];simp
theorem vM {A B Z:List C} {m n:Nat} (ha:A.length=m) (hb:B.length=n):(spl (A++Z) m B).take ((m+n)*1)=A++B:=by
 unfold spl
 rw[XM ha,XM (by rw[List.length_append,ha,hb,Nat.mul_one])]
theorem NZ {A B Z Y:List C} {m n:Nat} (ha:A.length=m) (hb:B.length=n):((A++Z).take m++B++Y).take ((m+n)*1)=A++B:=by
 rw[Nat.mul_one,XM ha,XM (by rw[List.length_append,ha,hb])]
theorem Vg {a b:Zz}:(qA (a++b)).flatten=(qA a).flatten++(qA b).flatten:=by
 unfold qA;rw[List.map_append,List.flatten_append]
def zpo (f:FsV) (follow:Bool) (k:Nat):Prop:=k<=40->∀ (l:Zz) (s:qk) (dir:Bool) (q:Int),q=40-(k:Int)->l.length+k*20000<=1000000 ->
  Fun Tryz.prog G0 42 [.agg (fsC f),.agg (j0 s),.sl 1 (qA l),.sc (.bool follow),.sc (.bool dir),.sc (.int .i64 q)] (.tup [.agg (j0 (onN f follow k l s dir).1),.sc (.int .i64 (onN f follow k l s dir).2)]) 0
theorem znO {f:FsV} (hs:FsS f) (follow:Bool) (k:Nat) (s:qk) (dir:Bool) (q:Int) :
  Fun Tryz.prog G0 42 [.agg (fsC f),.agg (j0 s),.sl 1 (qA []),.sc (.bool follow),.sc (.bool dir),.sc (.int .i64 q)] (.tup [.agg (j0 (onN f follow k [] s dir).1),.sc (.int .i64 (onN f follow k [] s dir).2)]) 0:=by
 have hg:=Jl (G:=G0) f s.ino (by have:=hs.len;omega)
 rw[zii]
 have e0:onL f follow (lkN f follow k) [] s dir=if zF s.ino f.xs=true/\dir=true/\(zg s.ino f.xs).kind≠2 then (qL,3) else (s,0):=rfl
 cases hh:zF s.ino f.xs with
 | false =>
  rw[hh]at hg
  have e:onL f follow (lkN f follow k) [] s dir=(s,0):=by rw[e0,hh];rfl
  refine Fun.of (fun i=>if i=31 then Qj [(0,.pure),(1,.pure),(2,.pure),(3,.pure),(4,.pure),(5,.pure),(7,.pure),(9,.pure),(10,.pure),(11,.pure),(12,.pure),(6,.flt [0,1,2,6,7,8,9,10]),(8,.flt [0,1,2,7,8,9,10]),(13,.bar),(14,.pure),(15,.pure),(16,.bar),(17,.pure)] else []) Tryz.func42 rfl (zp rfl) (by kernel_rfl) ?_;dsimp only[Tryz.f42]
  push_cast -dsimp
  refine cl (hg) ?_;push_cast -dsimp
  exact ⟨[],rfl,rfl,by push_cast -dsimp [zb,za,CLe,ze,e]⟩
 | true =>
  rw[hh]at hg
  cases dir with
  | false =>
   have e:onL f follow (lkN f follow k) [] s false=(s,0):=by rw[e0];simp
   refine Fun.of (fun i=>if i=31 then Qj [(0,.pure),(1,.pure),(2,.pure),(3,.pure),(4,.pure),(5,.pure),(7,.pure),(9,.pure),(10,.pure),(11,.pure),(12,.pure),(6,.flt [0,1,2,6,7,8,9,10]),(8,.flt [0,1,2,7,8,9,10]),(13,.bar),(14,.pure),(15,.pure),(16,.bar),(17,.pure)] else []) Tryz.func42 rfl (zp rfl) (by kernel_rfl) ?_;dsimp only[Tryz.f42]
   push_cast -dsimp
   refine cl (hg) ?_;push_cast -dsimp
   exact ⟨[],rfl,rfl,by push_cast -dsimp [zb,za,CLe,ze,e]⟩
  | true =>
   by_cases hk:(zg s.ino f.xs).kind=2
   ·have e:onL f follow (lkN f follow k) [] s true=(s,0):=by rw[e0];simp[hk]
    refine Fun.of (fun i=>if i=31 then Qj [(0,.pure),(1,.pure),(2,.pure),(3,.pure),(4,.pure),(5,.pure),(7,.pure),(9,.pure),(10,.pure),(11,.pure),(12,.pure),(6,.flt [0,1,2,6,7,8,9,10]),(8,.flt [0,1,2,7,8,9,10]),(13,.bar),(14,.pure),(15,.pure),(16,.bar),(17,.pure)] else []) Tryz.func42 rfl (zp rfl) (by kernel_rfl) ?_;dsimp only[Tryz.f42]
    push_cast -dsimp
    refine cl (hg) ?_;push_cast -dsimp [hk]
    exact ⟨[],rfl,rfl,by push_cast -dsimp [zb,za,CLe,ze,e]⟩
   ·have e:onL f follow (lkN f follow k) [] s true=(qL,3):=by rw[e0,hh];simp[hk]
    refine Fun.of (fun i=>if i=31 then Qj [(0,.pure),(1,.pure),(2,.pure),(3,.pure),(4,.pure),(5,.pure),(7,.pure),(9,.pure),(10,.pure),(11,.pure),(12,.pure),(6,.flt [0,1,2,6,7,8,9,10]),(8,.flt [0,1,2,7,8,9,10]),(13,.bar),(14,.pure),(15,.pure),(16,.bar),(17,.pure)] else []) Tryz.func42 rfl (zp rfl) (by kernel_rfl) ?_;dsimp only[Tryz.f42]
    push_cast -dsimp
    refine cl (hg) ?_;push_cast -dsimp [hk]
    exact ⟨[],rfl,rfl,by push_cast -dsimp [zb,za,CLe,ze,e,qL]⟩
theorem zj7 {f:FsV} (hs:FsS f) (follow:Bool) (k:Nat) (hk40:k<=40) (ihk:∀ j,j<k->zpo f follow j) (n:List UInt8) (r:Zz) (ih:∀ (s:qk) (dir:Bool) (q:Int),q=40-(k:Int)->r.length+k*20000<=1000000->Fun Tryz.prog G0 42 [.agg (fsC f),.agg (j0 s),.sl 1 (qA r),.sc (.bool follow),.sc (.bool dir),.sc (.int .i64 q)] (.tup [.agg (j0 (onN f follow k r s dir).1),.sc (.int .i64 (onN f follow k r s dir).2)]) 0)
    (s:qk) (dir:Bool) (q:Int) (hq:q=40-(k:Int)) (hl:(n :: r).length+k*20000<=1000000) :
    Fun Tryz.prog G0 42 [.agg (fsC f),.agg (j0 s),.sl 1 ([.str n] :: qA r),.sc (.bool follow),.sc (.bool dir),.sc (.int .i64 q)] (.tup [.agg (j0 (onN f follow k (n :: r) s dir).1),.sc (.int .i64 (onN f follow k (n :: r) s dir).2)]) 0:=by
  have hlen:=hs.len
  have hsl:(qA r).length=r.length:=List.length_map ..
  have hz:((r.length:Int)+1=0)=False:=eq_false (by omega)
  have hrl:r.length+k*20000<=1000000:=by rw[List.length_cons]at hl;omega
  rw[zii]at ih ⊢
  have e0:onL f follow (lkN f follow k) (n :: r) s dir=if s.ino=0 then (qL,1)
    else if (zg s.ino f.xs).kind≠2 then (qL,3)
    else if n = [46] then onL f follow (lkN f follow k) r ⟨0,[],(zg s.ino f.xs).ino⟩ dir
    else if n = [46,46] then onL f follow (lkN f follow k) r ⟨0,[],(zg s.ino f.xs).parent⟩ dir
    else if Q4 n (zg s.ino f.xs).es=false∨(zg (qr n (zg s.ino f.xs).es) f.xs).kind≠3∨(r = []/\follow=false/\dir=false) then
      onL f follow (lkN f follow k) r ⟨(zg s.ino f.xs).ino,n,qr n (zg s.ino f.xs).es⟩ dir
    else lkN f follow k (zg (qr n (zg s.ino f.xs).es) f.xs) (zg s.ino f.xs) r dir:=rfl
  by_cases h1:s.ino=0
  · rw[if_pos h1]at e0
    refine Fun.of (fun i=>if i=31 then Qj [(0,.pure),(1,.pure),(2,.pure),(3,.pure),(4,.pure),(5,.pure),(7,.pure),(9,.pure),(10,.pure),(11,.pure),(12,.pure),(6,.flt [0,1,2,6,7,8,9,10]),(8,.flt [0,1,2,7,8,9,10]),(13,.bar),(14,.pure),(15,.pure),(16,.bar),(17,.pure)] else []) Tryz.func42 rfl (zp rfl) (by kernel_rfl) ?_;dsimp only[Tryz.f42]
    push_cast -dsimp [hz,h1]
    exact ⟨[],rfl,rfl,by push_cast -dsimp [zb,za,CLe,ze,e0,qL]⟩
  rw[if_neg h1]at e0
  have hg:=Jl (G:=G0) f s.ino (by omega)
  by_cases h2:(zg s.ino f.xs).kind=2
  case neg =>
    rw[if_pos h2]at e0
    refine Fun.of (fun i=>if i=31 then Qj [(0,.pure),(1,.pure),(2,.pure),(3,.pure),(4,.pure),(5,.pure),(7,.pure),(9,.pure),(10,.pure),(11,.pure),(12,.pure),(6,.flt [0,1,2,6,7,8,9,10]),(8,.flt [0,1,2,7,8,9,10]),(13,.bar),(14,.pure),(15,.pure),(16,.bar),(17,.pure)] else []) Tryz.func42 rfl (zp rfl) (by kernel_rfl) ?_;dsimp only[Tryz.f42]
    push_cast -dsimp [hz,h1]
    refine cl (hg) ?_;push_cast -dsimp [h2]
    exact ⟨[],rfl,rfl,by push_cast -dsimp [zb,za,CLe,ze,e0,qL]⟩
  rw[if_neg (fun h=>h h2)]at e0
  have hh:=vu h2
  have hnod:=hs.node _ (zi hh).2.1
  rw[hh]at hg
  generalize zg s.ino f.xs=d at hg h2 e0 hnod
  by_cases h3:n = [46]
  · rw[if_pos h3]at e0
    have hi:=ih ⟨0,[],d.ino⟩ dir q hq hrl
    refine Fun.of (fun i=>if i=31 then Qj [(0,.pure),(1,.pure),(2,.pure),(3,.pure),(4,.pure),(5,.pure),(7,.pure),(9,.pure),(10,.pure),(11,.pure),(12,.pure),(6,.flt [0,1,2,6,7,8,9,10]),(8,.flt [0,1,2,7,8,9,10]),(13,.bar),(14,.pure),(15,.pure),(16,.bar),(17,.pure)] else []) Tryz.func42 rfl (zp rfl) (by kernel_rfl) ?_;dsimp only[Tryz.f42]
    push_cast -dsimp [hz,h1]
    refine cl (hg) ?_;push_cast -dsimp [h2,h3]
    (try simp only[lS]);repeat refine And.intro (by omega) ?_
    refine cl (hi) ?_;push_cast -dsimp
    exact ⟨[],rfl,rfl,by push_cast -dsimp [zb,za,CLe,ze,e0]⟩
  rw[if_neg h3]at e0
  by_cases h4:n = [46,46]
  · rw[if_pos h4]at e0
    have hi:=ih ⟨0,[],d.parent⟩ dir q hq hrl
    have h3':([46,46]:List UInt8)≠[46]:=by decide
    refine Fun.of (fun i=>if i=31 then Qj [(0,.pure),(1,.pure),(2,.pure),(3,.pure),(4,.pure),(5,.pure),(7,.pure),(9,.pure),(10,.pure),(11,.pure),(12,.pure),(6,.flt [0,1,2,6,7,8,9,10]),(8,.flt [0,1,2,7,8,9,10]),(13,.bar),(14,.pure),(15,.pure),(16,.bar),(17,.pure)] else []) Tryz.func42 rfl (zp rfl) (by kernel_rfl) ?_;dsimp only[Tryz.f42]
    push_cast -dsimp [hz,h1]
    refine cl (hg) ?_;push_cast -dsimp [h2,h4,h3']
    (try simp only[lS]);repeat refine And.intro (by omega) ?_
    refine cl (hi) ?_;push_cast -dsimp
    exact ⟨[],rfl,rfl,by push_cast -dsimp [zb,za,CLe,ze,e0]⟩
  rw[if_neg h4]at e0
  have hfi:=NP (G:=G0) d.es n (by omega)
  have hx:=Jl (G:=G0) f (qr n d.es) (by omega)
  have stop:(Q4 n d.es=false∨(zg (qr n d.es) f.xs).kind≠3∨(r = []/\follow=false/\dir=false))->onL f follow (lkN f follow k) (n :: r) s dir=onL f follow (lkN f follow k) r ⟨d.ino,n,qr n d.es⟩ dir:=fun h=>by rw[e0,if_pos h]
  have hi:=ih ⟨d.ino,n,qr n d.es⟩ dir q hq hrl
  cases hE:Q4 n d.es with
  | false =>
    have e:=stop (.inl hE)
    rw[hE]at hfi
    refine Fun.of (fun i=>if i=31 then Qj [(0,.pure),(1,.pure),(2,.pure),(3,.pure),(4,.pure),(5,.pure),(7,.pure),(9,.pure),(10,.pure),(11,.pure),(12,.pure),(6,.flt [0,1,2,6,7,8,9,10]),(8,.flt [0,1,2,7,8,9,10]),(13,.bar),(14,.pure),(15,.pure),(16,.bar),(17,.pure)] else []) Tryz.func42 rfl (zp rfl) (by kernel_rfl) ?_;dsimp only[Tryz.f42]
    push_cast -dsimp [hz,h1]
    refine cl (hg) ?_;push_cast -dsimp [h2,h3,h4]
    (try simp only[lS]);repeat refine And.intro (by omega) ?_
    refine cl (hfi) ?_;push_cast -dsimp [hE]
    refine cl (hx) ?_;push_cast -dsimp [h2]
    refine cl (hi) ?_;push_cast -dsimp
    exact ⟨[],rfl,rfl,by push_cast -dsimp [zb,za,CLe,ze,e]⟩
  | true =>
  rw[hE]at hfi
  by_cases hk3:(zg (qr n d.es) f.xs).kind=3
  case neg =>
    have e:=stop (.inr (.inl hk3))
    refine Fun.of (fun i=>if i=31 then Qj [(0,.pure),(1,.pure),(2,.pure),(3,.pure),(4,.pure),(5,.pure),(7,.pure),(9,.pure),(10,.pure),(11,.pure),(12,.pure),(6,.flt [0,1,2,6,7,8,9,10]),(8,.flt [0,1,2,7,8,9,10]),(13,.bar),(14,.pure),(15,.pure),(16,.bar),(17,.pure)] else []) Tryz.func42 rfl (zp rfl) (by kernel_rfl) ?_;dsimp only[Tryz.f42]
    push_cast -dsimp [hz,h1]
    refine cl (hg) ?_;push_cast -dsimp [h2,h3,h4]
    (try simp only[lS]);repeat refine And.intro (by omega) ?_
    refine cl (hfi) ?_;push_cast -dsimp [hE]
    refine cl (hx) ?_;push_cast -dsimp [hk3]
    refine cl (hi) ?_;push_cast -dsimp
    exact ⟨[],rfl,rfl,by push_cast -dsimp [zb,za,CLe,ze,e]⟩
  by_cases hst:r = []/\follow=false/\dir=false
  · have e:=stop (.inr (.inr hst))
    obtain ⟨rfl,rfl,rfl⟩:=hst
    refine Fun.of (fun i=>if i=31 then Qj [(0,.pure),(1,.pure),(2,.pure),(3,.pure),(4,.pure),(5,.pure),(7,.pure),(9,.pure),(10,.pure),(11,.pure),(12,.pure),(6,.flt [0,1,2,6,7,8,9,10]),(8,.flt [0,1,2,7,8,9,10]),(13,.bar),(14,.pure),(15,.pure),(16,.bar),(17,.pure)] else []) Tryz.func42 rfl (zp rfl) (by kernel_rfl) ?_;dsimp only[Tryz.f42]
    push_cast -dsimp [hz,h1]
    refine cl (hg) ?_;push_cast -dsimp [h2,h3,h4]
    (try simp only[lS]);repeat refine And.intro (by omega) ?_
    refine cl (hfi) ?_;push_cast -dsimp [hE]
    refine cl (hx) ?_;push_cast -dsimp [hk3,List.map_nil,List.length_nil]
    refine cl (hi) ?_;push_cast -dsimp
    exact ⟨[],rfl,rfl,by push_cast -dsimp [zb,za,CLe,ze,e]⟩
  rw[if_neg (fun h=>by
    rcases h with h | h | h
    · rw[hE]at h;cases h
    · exact h hk3
    · exact hst h)]at e0
  clear stop hi ih
  have hxn:(zg (qr n d.es) f.xs).data.length<=10000:=by
    have hhx:zF (qr n d.es) f.xs=true:=by
      cases hq2:zF (qr n d.es) f.xs with
      | true=>rfl
      | false=>rw[(Q1 hq2).2]at hk3;exact absurd hk3 (by decide)
    exact (hs.node _ (zi hhx).2.1).2.1
  generalize zF (qr n d.es) f.xs=hb at hx
  generalize zg (qr n d.es) f.xs=x at hx hk3 e0 hxn
  have hgo:((r.length:Int)=0)=(r = []):=by
    rw[←List.length_eq_zero_iff];exact propext ⟨fun h=>by omega,fun h=>by omega⟩
  cases k with
  | zero =>
    have hq40:q=40:=by omega
    have e:onL f follow (lkN f follow 0) (n :: r) s dir=(qL,6):=e0
    by_cases hr:r = []
    · subst hr
      cases follow<;>cases dir<;>first
        | exact absurd ⟨rfl,rfl,rfl⟩ hst
        | (subst hq40
           refine Fun.of (fun i=>if i=31 then Qj [(0,.pure),(1,.pure),(2,.pure),(3,.pure),(4,.pure),(5,.pure),(7,.pure),(9,.pure),(10,.pure),(11,.pure),(12,.pure),(6,.flt [0,1,2,6,7,8,9,10]),(8,.flt [0,1,2,7,8,9,10]),(13,.bar),(14,.pure),(15,.pure),(16,.bar),(17,.pure)] else []) Tryz.func42 rfl (zp rfl) (by kernel_rfl) ?_;dsimp only[Tryz.f42]
           push_cast -dsimp [hz,h1]
           refine cl (hg) ?_;push_cast -dsimp [h2,h3,h4]
           (try simp only[lS]);repeat refine And.intro (by omega) ?_
           refine cl (hfi) ?_;push_cast -dsimp [hE]
           refine cl (hx) ?_;push_cast -dsimp [hk3,List.map_nil,List.length_nil]
           exact ⟨[],rfl,rfl,by push_cast -dsimp [zb,za,CLe,ze,e,qL]⟩)
    · have hr':=eq_false hr
      subst hq40
      refine Fun.of (fun i=>if i=31 then Qj [(0,.pure),(1,.pure),(2,.pure),(3,.pure),(4,.pure),(5,.pure),(7,.pure),(9,.pure),(10,.pure),(11,.pure),(12,.pure),(6,.flt [0,1,2,6,7,8,9,10]),(8,.flt [0,1,2,7,8,9,10]),(13,.bar),(14,.pure),(15,.pure),(16,.bar),(17,.pure)] else []) Tryz.func42 rfl (zp rfl) (by kernel_rfl) ?_;dsimp only[Tryz.f42]
      push_cast -dsimp [hz,h1]
      refine cl (hg) ?_;push_cast -dsimp [h2,h3,h4]
      (try simp only[lS]);repeat refine And.intro (by omega) ?_
      refine cl (hfi) ?_;push_cast -dsimp [hE]
      refine cl (hx) ?_;push_cast -dsimp [hk3,hgo,hr']
      exact ⟨[],rfl,rfl,by push_cast -dsimp [zb,za,CLe,ze,e,qL]⟩
  | succ k =>
    have hq40:(q=40)=False:=eq_false (by omega)
    have hlo:=Um x.data (by omega)
    have hre:=Vt x.data (by omega)
    have hns:=jl x.data
    have e1:onL f follow (lkN f follow (k+1)) (n :: r) s dir=if HV x.data then (qL,7) else onN f follow k (zE x.data++r) ⟨0,[],if zbN x.data then 1 else d.ino⟩ (dir||(Yv x.data&&decide (r = []))):=e0
    have hon:=fun dd=>ihk k (by omega) (by omega) (zE x.data++r) ⟨0,[],if zbN x.data then 1 else d.ino⟩ dd (q+1) (by omega) (by simp;omega)
    unfold UG at hre
    change Fun _ _ _ _ (.agg [jN (zbN x.data),.own 0 9 1 (qA (zE x.data)),jN (Yv x.data)]) _ at hre
    cases hlp:HV x.data with
    | true =>
      rw[hlp,if_pos rfl]at e1
      rw[hlp]at hlo
      by_cases hr:r = []
      · subst hr
        cases follow<;>cases dir<;>first
          | exact absurd ⟨rfl,rfl,rfl⟩ hst
          | (
             refine Fun.of (fun i=>if i=31 then Qj [(0,.pure),(1,.pure),(2,.pure),(3,.pure),(4,.pure),(5,.pure),(7,.pure),(9,.pure),(10,.pure),(11,.pure),(12,.pure),(6,.flt [0,1,2,6,7,8,9,10]),(8,.flt [0,1,2,7,8,9,10]),(13,.bar),(14,.pure),(15,.pure),(16,.bar),(17,.pure)] else []) Tryz.func42 rfl (zp rfl) (by kernel_rfl) ?_;dsimp only[Tryz.f42]
             push_cast -dsimp [hz,h1]
             refine cl (hg) ?_;push_cast -dsimp [h2,h3,h4]
             (try simp only[lS]);repeat refine And.intro (by omega) ?_
             refine cl (hfi) ?_;push_cast -dsimp [hE]
             refine cl (hx) ?_;push_cast -dsimp [hk3,List.map_nil,List.length_nil,hq40]
             refine cl (hlo) ?_;push_cast -dsimp
             exact ⟨[],rfl,rfl,by push_cast -dsimp [zb,za,CLe,ze,e1,qL]⟩)
      · have hr':=eq_false hr
        refine Fun.of (fun i=>if i=31 then Qj [(0,.pure),(1,.pure),(2,.pure),(3,.pure),(4,.pure),(5,.pure),(7,.pure),(9,.pure),(10,.pure),(11,.pure),(12,.pure),(6,.flt [0,1,2,6,7,8,9,10]),(8,.flt [0,1,2,7,8,9,10]),(13,.bar),(14,.pure),(15,.pure),(16,.bar),(17,.pure)] else []) Tryz.func42 rfl (zp rfl) (by kernel_rfl) ?_;dsimp only[Tryz.f42]
        push_cast -dsimp [hz,h1]
        refine cl (hg) ?_;push_cast -dsimp [h2,h3,h4]
        (try simp only[lS]);repeat refine And.intro (by omega) ?_
        refine cl (hfi) ?_;push_cast -dsimp [hE]
        refine cl (hx) ?_;push_cast -dsimp [hk3,hgo,hr',hq40]
        refine cl (hlo) ?_;push_cast -dsimp
        exact ⟨[],rfl,rfl,by push_cast -dsimp [zb,za,CLe,ze,e1,qL]⟩
    | false =>
      rw[hlp,if_neg (by decide)]at e1
      rw[hlp]at hlo
      have hkn:∀ z∈qA (zE x.data),z.length=1:=fun z hz=>by obtain ⟨y,_,rfl⟩:=List.mem_map.1 hz;rfl
      have hkr:∀ z∈qA r,z.length=1:=fun z hz=>by obtain ⟨y,_,rfl⟩:=List.mem_map.1 hz;rfl
      have hkb:∀ z∈qA (zE x.data++r),z.length=1:=fun z hz=>by obtain ⟨y,_,rfl⟩:=List.mem_map.1 hz;rfl
      have hsb:qU (qA (zE x.data++r)):=fun z hz=>by obtain ⟨y,_,rfl⟩:=List.mem_map.1 hz;rfl
      have hnl:(qA (zE x.data)).length=(zE x.data).length:=List.length_map ..
      obtain ⟨fr,hfr⟩:∃ fr,(if zbN x.data=true then 1 else d.ino)=fr:=⟨_,rfl⟩
      obtain ⟨D,hD⟩:∃ D,(dir||(Yv x.data&&decide (r = [])))=D:=⟨_,rfl⟩
      have hon:=hon D
      rw[hfr]at hon e1
      rw[hD]at e1
      by_cases hr:r = []
      · have hr':=eq_true hr
        rw[decide_eq_true hr,Bool.and_true]at hD
        cases hab:zbN x.data<;>cases hsp:Yv x.data <;>
        · rw[hab,hsp]at hre
          rw[hab]at hfr
          rw[hsp]at hD
          simp only[if_true,if_false,Bool.false_eq_true]at hfr
          subst hfr
          cases follow<;>cases dir<;>first
            | exact absurd ⟨hr,rfl,rfl⟩ hst
            | (simp only[Bool.or_true,Bool.or_false]at hD
               subst hD
               refine Fun.of (fun i=>if i=31 then Qj [(0,.pure),(1,.pure),(2,.pure),(3,.pure),(4,.pure),(5,.pure),(7,.pure),(9,.pure),(10,.pure),(11,.pure),(12,.pure),(6,.flt [0,1,2,6,7,8,9,10]),(8,.flt [0,1,2,7,8,9,10]),(13,.bar),(14,.pure),(15,.pure),(16,.bar),(17,.pure)] else []) Tryz.func42 rfl (zp rfl) (by kernel_rfl) ?_;dsimp only[Tryz.f42]
               push_cast -dsimp [hz,h1]
               refine cl (hg) ?_;push_cast -dsimp [h2,h3,h4]
               (try simp only[lS]);repeat refine And.intro (by omega) ?_
               refine cl (hfi) ?_;push_cast -dsimp [hE]
               refine cl (hx) ?_;push_cast -dsimp [hk3,hgo,hr',hq40]
               refine cl (hlo) ?_;push_cast -dsimp
               refine cl (hre) ?_;push_cast -dsimp [hgo,hr']
               (try simp only[lS]);repeat refine And.intro (by omega) ?_
               refine vE UQ ze4 rfl rfl (by decide) rfl (zG hkn) (by omega) (by omega) (fun g0=>?_) (fun g0 cap c1 c2=>?_)
               · push_cast -dsimp
                 refine ⟨by split<;>first | omega | trivial,?_⟩
                 refine vE UQ ze4 rfl rfl (by decide) rfl (zG hkr) (by omega) (by omega) (fun g1=>?_) (fun g1 cap c1 c2=>?_)
                 · have hn0:zE x.data = []:=List.eq_nil_of_length_eq_zero (by omega)
                   have hr0:r = []:=List.eq_nil_of_length_eq_zero (by omega)
                   push_cast -dsimp
                   refine ⟨by split<;>first | omega | trivial,?_⟩
                   push_cast -dsimp
                   rw[show zE x.data++r = [] by rw[hn0,hr0];rfl]at hon e1
                   refine call (hon.less (by push_cast -dsimp [zb,za,CLe,ze])) ?_
                   push_cast -dsimp
                   exact ⟨[],rfl,rfl,by push_cast -dsimp [zb,za,CLe,ze,e1]⟩
                 · have hn0:zE x.data = []:=List.eq_nil_of_length_eq_zero (by omega)
                   have hn1:(zE x.data).length=0:=by rw[hn0];rfl
                   push_cast -dsimp
                   refine ⟨by split<;>first | omega | trivial,?_⟩
                   push_cast -dsimp
                   refine G9 [.agg (fsC f),.agg (j0 ⟨0,[],_⟩),.sl 1 (qA (zE x.data++r)),.sc (.bool _),.sc (.bool _),.sc (.int .i64 (q+1))] hon rfl ?_ ?_
                   · exact zU (qH rfl) (zU (qH rfl) (zU (XH rfl (by rw[List.length_map,List.length_append];try omega) (by omega) c2 hkb hsb (by rw[hn0];exact XM ((zG hkr).trans (by rw[hsl])))) (jx rfl)))
                   · push_cast -dsimp
                     exact ⟨[],rfl,rfl,by push_cast -dsimp [zb,za,CLe,ze,e1]⟩
               · push_cast -dsimp
                 refine ⟨by split<;>first | omega | trivial,?_⟩
                 refine XU UQ ze4 rfl rfl (by decide) rfl (zG hkr) rfl (by rw[List.length_append,zG hkn,List.length_replicate];omega) (by omega) (by omega) (by omega) (fun g1=>?_) (fun g1 cap2 c3 c4=>?_)
                 · push_cast -dsimp
                   refine ⟨by split<;>first | omega | trivial,?_⟩
                   push_cast -dsimp
                   refine G9 [.agg (fsC f),.agg (j0 ⟨0,[],_⟩),.sl 1 (qA (zE x.data++r)),.sc (.bool _),.sc (.bool _),.sc (.int .i64 (q+1))] hon rfl ?_ ?_
                   · exact zU (qH rfl) (zU (qH rfl) (zU (XH rfl (by rw[List.length_map,List.length_append];try omega) (by omega) c2 hkb hsb (by exact (vM ((zG hkn).trans (by omega)) ((zG hkr).trans (by omega))).trans Vg.symm)) (jx rfl)))
                   · push_cast -dsimp
                     exact ⟨[],rfl,rfl,by push_cast -dsimp [zb,za,CLe,ze,e1]⟩
                 · push_cast -dsimp
                   refine ⟨by split<;>first | omega | trivial,?_⟩
                   push_cast -dsimp
                   refine G9 [.agg (fsC f),.agg (j0 ⟨0,[],_⟩),.sl 1 (qA (zE x.data++r)),.sc (.bool _),.sc (.bool _),.sc (.int .i64 (q+1))] hon rfl ?_ ?_
                   · exact zU (qH rfl) (zU (qH rfl) (zU (XH rfl (by rw[List.length_map,List.length_append];try omega) (by omega) c4 hkb hsb (by exact (NZ ((zG hkn).trans (by omega)) ((zG hkr).trans (by omega))).trans Vg.symm)) (jx rfl)))
                   · push_cast -dsimp
                     exact ⟨[],rfl,rfl,by push_cast -dsimp [zb,za,CLe,ze,e1]⟩)
      · have hr':=eq_false hr
        rw[decide_eq_false hr,Bool.and_false,Bool.or_false]at hD
        subst hD
        cases hab:zbN x.data<;>cases hsp:Yv x.data <;>
        · rw[hab,hsp]at hre
          rw[hab]at hfr
          simp only[if_true,if_false,Bool.false_eq_true]at hfr
          subst hfr
          refine Fun.of (fun i=>if i=31 then Qj [(0,.pure),(1,.pure),(2,.pure),(3,.pure),(4,.pure),(5,.pure),(7,.pure),(9,.pure),(10,.pure),(11,.pure),(12,.pure),(6,.flt [0,1,2,6,7,8,9,10]),(8,.flt [0,1,2,7,8,9,10]),(13,.bar),(14,.pure),(15,.pure),(16,.bar),(17,.pure)] else []) Tryz.func42 rfl (zp rfl) (by kernel_rfl) ?_;dsimp only[Tryz.f42]
          push_cast -dsimp [hz,h1]
          refine cl (hg) ?_;push_cast -dsimp [h2,h3,h4]
          (try simp only[lS]);repeat refine And.intro (by omega) ?_
          refine cl (hfi) ?_;push_cast -dsimp [hE]
          refine cl (hx) ?_;push_cast -dsimp [hk3,hgo,hr',hq40]
          refine cl (hlo) ?_;push_cast -dsimp
          refine cl (hre) ?_;push_cast -dsimp [hgo,hr']
          (try simp only[lS]);repeat refine And.intro (by omega) ?_
          refine vE UQ ze4 rfl rfl (by decide) rfl (zG hkn) (by omega) (by omega) (fun g0=>?_) (fun g0 cap c1 c2=>?_)
          · push_cast -dsimp
            refine ⟨by split<;>first | omega | trivial,?_⟩
            refine vE UQ ze4 rfl rfl (by decide) rfl (zG hkr) (by omega) (by omega) (fun g1=>?_) (fun g1 cap c1 c2=>?_)
            · exact absurd (List.eq_nil_of_length_eq_zero (by omega)) hr
            · have hn0:zE x.data = []:=List.eq_nil_of_length_eq_zero (by omega)
              have hn1:(zE x.data).length=0:=by rw[hn0];rfl
              push_cast -dsimp
              refine ⟨by split<;>first | omega | trivial,?_⟩
              push_cast -dsimp
              refine G9 [.agg (fsC f),.agg (j0 ⟨0,[],_⟩),.sl 1 (qA (zE x.data++r)),.sc (.bool _),.sc (.bool _),.sc (.int .i64 (q+1))] hon rfl ?_ ?_
              · exact zU (qH rfl) (zU (qH rfl) (zU (XH rfl (by rw[List.length_map,List.length_append];try omega) (by omega) c2 hkb hsb (by rw[hn0];exact XM ((zG hkr).trans (by rw[hsl])))) (jx rfl)))
              · push_cast -dsimp
                exact ⟨[],rfl,rfl,by push_cast -dsimp [zb,za,CLe,ze,e1]⟩
          · push_cast -dsimp
            refine ⟨by split<;>first | omega | trivial,?_⟩
            refine XU UQ ze4 rfl rfl (by decide) rfl (zG hkr) rfl (by rw[List.length_append,zG hkn,List.length_replicate];omega) (by omega) (by omega) (by omega) (fun g1=>?_) (fun g1 cap2 c3 c4=>?_)
            · push_cast -dsimp
              refine ⟨by split<;>first | omega | trivial,?_⟩
              push_cast -dsimp
              refine G9 [.agg (fsC f),.agg (j0 ⟨0,[],_⟩),.sl 1 (qA (zE x.data++r)),.sc (.bool _),.sc (.bool _),.sc (.int .i64 (q+1))] hon rfl ?_ ?_
              · exact zU (qH rfl) (zU (qH rfl) (zU (XH rfl (by rw[List.length_map,List.length_append];try omega) (by omega) c2 hkb hsb (by exact (vM ((zG hkn).trans (by omega)) ((zG hkr).trans (by omega))).trans Vg.symm)) (jx rfl)))
              · push_cast -dsimp
                exact ⟨[],rfl,rfl,by push_cast -dsimp [zb,za,CLe,ze,e1]⟩
            · push_cast -dsimp
              refine ⟨by split<;>first | omega | trivial,?_⟩
              push_cast -dsimp
              refine G9 [.agg (fsC f),.agg (j0 ⟨0,[],_⟩),.sl 1 (qA (zE x.data++r)),.sc (.bool _),.sc (.bool _),.sc (.int .i64 (q+1))] hon rfl ?_ ?_
              · exact zU (qH rfl) (zU (qH rfl) (zU (XH rfl (by rw[List.length_map,List.length_append];try omega) (by omega) c4 hkb hsb (by exact (NZ ((zG hkn).trans (by omega)) ((zG hkr).trans (by omega))).trans Vg.symm)) (jx rfl)))
              · push_cast -dsimp
                exact ⟨[],rfl,rfl,by push_cast -dsimp [zb,za,CLe,ze,e1]⟩
theorem zlA {f:FsV} (hs:FsS f) (follow:Bool):∀ k,zpo f follow k:=by
 intro k
 induction k using Nat.strongRecOn with
 | ind k ihk =>
  intro hk l
  induction l with
  | nil=>intro s dir q hq hl;exact znO hs follow k s dir q
  | cons n r ih=>intro s dir q hq hl;exact zj7 hs follow k hk ihk n r ih s dir q hq hl
end
section
open Go.RowKit
theorem Xo {f:FsV} (hs:FsS f) {follow:Bool} {lk:zw->zw->Zz->Bool->qk×Int} (hl:∀ x d r dir,x.data.length<=10000->(∀ y∈r,y.length<=100000)->(lk x d r dir).1.name.length<=100000):∀ (l:Zz) (s:qk) (dir:Bool),(∀ y∈l,y.length<=100000)->s.name.length<=100000->(onL f follow lk l s dir).1.name.length<=100000
 | [],s,dir,hy,h=>by
  unfold onL
  split
  ·exact Nat.zero_le _
  ·exact h
 | n :: r,s,dir,hy,h=>by
  have hr:∀ y∈r,y.length<=100000:=fun y q=>hy y (List.mem_cons_of_mem _ q)
  unfold onL
  split
  ·exact Nat.zero_le _
  split
  ·exact Nat.zero_le _
  split
  ·exact Xo hs hl r _ dir hr (Nat.zero_le _)
  split
  ·exact Xo hs hl r _ dir hr (Nat.zero_le _)
  split
  ·exact Xo hs hl r _ dir hr (hy n List.mem_cons_self)
  ·rename_i hq
   refine hl _ _ _ _ ?_ hr
   have hk3:(zg (qr n (zg s.ino f.xs).es) f.xs).kind=3:=Classical.not_not.1 fun q=>hq (.inr (.inl q))
   have hhx:zF (qr n (zg s.ino f.xs).es) f.xs=true:=by
    cases hq2:zF (qr n (zg s.ino f.xs).es) f.xs with
    | true=>rfl
    | false=>rw[(Q1 hq2).2]at hk3;exact absurd hk3 (by decide)
   exact (hs.node _ (zi hhx).2.1).2.1
theorem Ut {f:FsV} (hs:FsS f) {follow:Bool}:∀ (k:Nat) (l:Zz) (s:qk) (dir:Bool),(∀ y∈l,y.length<=100000)->s.name.length<=100000->(onN f follow k l s dir).1.name.length<=100000
 | 0,l,s,dir,hy,h=>Xo hs (fun _ _ _ _ _ _=>Nat.zero_le _) l s dir hy h
 | k+1,l,s,dir,hy,h=>Xo hs (fun x d r dir hx hr=>by
   split
   ·exact Nat.zero_le _
   ·refine Ut hs k _ _ _ (fun y q=>?_) (Nat.zero_le _)
    rcases List.mem_append.1 q with q | q
    ·have:=(QC x.data).2 y q;omega
    ·exact hr y q) l s dir hy h
theorem uY {f:FsV} (hs:FsS f) (b p:List UInt8) (follow:Bool) (hp:p.length<=100000):(YU f b p follow).1.name.length<=100000:=by
 have hn:∀ y∈zE p,y.length<=100000:=fun y q=>by have:=(QC p).2 y q;omega
 unfold YU
 split
 ·exact Nat.zero_le _
 split
 ·exact Nat.zero_le _
 split
 ·exact Ut hs _ _ _ _ hn (Nat.zero_le _)
 split
 ·exact Nat.zero_le _
 ·exact Ut hs _ _ _ _ hn (Nat.zero_le _)
def Vy (x:zw):Bool:=decide (x.kind=3)&&decide (300<(x.data.length:Int))
def VG (f:FsV) (b p:List UInt8):Bool:=!((f.xs.take 100).any Vy)&&decide ((b.length:Int)<=1000)&&decide ((p.length:Int)<=5000)
theorem zaa (f:FsV) (b p:List UInt8):Fun Tryz.prog G0 12 [.agg (fsC f),.str b,.str p] (jN (VG f b p)) 0:=by
 have hll:(zt f.xs).length=f.xs.length:=List.length_map ..
 refine Fun.of (fun _=>[]) Tryz.func12 rfl (zp rfl) (by kernel_rfl) ?_;dsimp only[Tryz.f12]
 push_cast -dsimp
 refine loop (fun i:Nat=>⟨[(1,.str b),(2,.str p),(3,.ptr 0 0),(7,.sc (.int .i64 i))],[fsC f],0,0⟩) (fun i=>i<=100/\∀ t (h:t<f.xs.length),t<i->Vy f.xs[t]=false) (fun i=>100-i) 0 ⟨Nat.zero_le _,fun t h h'=>absurd h' (Nat.not_lt_zero _)⟩ ?_ ?_
 ·exact zS.mk [] rfl rfl (Nat.zero_le _) rfl (by push_cast -dsimp [zb,za,CLe,ze]) (by push_cast -dsimp [zb,za,CLe,ze])
 ·rintro i ⟨h1,h2⟩
  have hend:¬(i<f.xs.length/\i<100)->(f.xs.take 100).any Vy=false:=fun h=>by
   rw[List.any_eq_false]
   intro x hx
   obtain ⟨t,ht,rfl⟩:=List.getElem_of_mem hx
   rw[List.length_take]at ht
   rw[List.getElem_take,h2 t (by omega) (by omega)]
   decide
  have stop:¬(i<f.xs.length/\i<100)->(decide ((b.length:Int)<=1000)&&decide ((p.length:Int)<=5000))=VG f b p:=fun h=>by
   unfold VG;rw[hend h];rfl
  by_cases h:i<f.xs.length
  ·by_cases h100:i<100
   ·have g1:=jh f.xs i h
    have h100':(i:Int)<100:=by omega
    have hm:f.xs[i]∈f.xs.take 100:=by
     rw[List.mem_take_iff_getElem]
     exact ⟨i,by omega,rfl⟩
    have next:Vy f.xs[i]=false->∀ t (h:t<f.xs.length),t<i+1->Vy f.xs[t]=false:=fun q t ht hlt=>by
     rcases Nat.lt_or_ge t i with r | r
     ·exact h2 t ht r
     ·have:t=i:=by omega
      subst this;exact q
    by_cases hk:f.xs[i].kind=3
    ·by_cases hd:300<(f.xs[i].data.length:Int)
     ·have hn:VG f b p=false:=by
       have:(f.xs.take 100).any Vy=true:=List.any_eq_true.2 ⟨_,hm,by unfold Vy;rw[decide_eq_true hk,decide_eq_true hd];rfl⟩
       unfold VG;rw[this];rfl
      push_cast -dsimp [hll,h,h100',g1,hk,hd]
      (try simp only[lS]);repeat refine And.intro (by omega) ?_
      exact ⟨[],rfl,rfl,by push_cast -dsimp [zb,za,CLe,ze,hn]⟩
     ·have hq:Vy f.xs[i]=false:=by unfold Vy;rw[decide_eq_false hd,Bool.and_false]
      push_cast -dsimp [hll,h,h100',g1,hk,hd]
      (try simp only[lS]);repeat refine And.intro (by omega) ?_
      exact ⟨i+1,⟨by omega,next hq⟩,by omega,zS.mk [] rfl rfl (Nat.zero_le _) rfl (by push_cast -dsimp [zb,za,CLe,ze]) (by push_cast -dsimp [zb,za,CLe,ze])⟩
    ·have hq:Vy f.xs[i]=false:=by unfold Vy;rw[decide_eq_false hk,Bool.false_and]
     push_cast -dsimp [hll,h,h100',g1,hk]
     (try simp only[lS]);repeat refine And.intro (by omega) ?_
     exact ⟨i+1,⟨by omega,next hq⟩,by omega,zS.mk [] rfl rfl (Nat.zero_le _) rfl (by push_cast -dsimp [zb,za,CLe,ze]) (by push_cast -dsimp [zb,za,CLe,ze])⟩
   ·have h100':((i:Int)<100)=False:=eq_false (by omega)
    have:=(stop (by omega)).symm
    by_cases hb:(b.length:Int)<=1000
    ·rw[decide_eq_true hb,Bool.true_and]at this
     push_cast -dsimp [hll,h,h100',hb]
     exact ⟨[],rfl,rfl,by push_cast -dsimp [zb,za,CLe,ze,this]⟩
    ·rw[decide_eq_false hb,Bool.false_and]at this
     push_cast -dsimp [hll,h,h100',hb]
     exact ⟨[],rfl,rfl,by push_cast -dsimp [zb,za,CLe,ze,this]⟩
  ·have:=(stop (by omega)).symm
   by_cases hb:(b.length:Int)<=1000
   ·rw[decide_eq_true hb,Bool.true_and]at this
    push_cast -dsimp [hll,h,hb]
    exact ⟨[],rfl,rfl,by push_cast -dsimp [zb,za,CLe,ze,this]⟩
   ·rw[decide_eq_false hb,Bool.false_and]at this
    push_cast -dsimp [hll,h,hb]
    exact ⟨[],rfl,rfl,by push_cast -dsimp [zb,za,CLe,ze,this]⟩
end
section
open CA CB
open Go.RowKit
theorem zeO (f:FsV) (hf:FsI f) (hs:FsS f) (b p:List UInt8) (follow:Bool) (hb:b.length<=100000) (hp:p.length<=100000):Fun Tryz.prog G0 15 [.agg (fsC f),.str b,.str p,.sc (.bool follow)] (.tup [.agg (j0 (YU f b p follow).1),.sc (.int .i64 (YU f b p follow).2)]) 0:=by
 have hns:=jl p
 have hlo:=Um p hp
 have hre:=Vt p hp
 have hon:=fun fr=>zlA hs follow 40 (Nat.le_refl _) (zE p) ⟨0,[],fr⟩ (Yv p) 0 rfl (by omega)
 unfold UG at hre
 change Fun _ _ _ _ (.agg [jN (zbN p),.own 0 9 1 (qA (zE p)),jN (Yv p)]) _ at hre
 by_cases h1:p = []
 ·subst h1
  have e:YU f b [] follow=(qL,1):=by unfold YU;rw[if_pos rfl]
  refine Fun.of (fun _=>[]) Tryz.func15 rfl (zp rfl) (by kernel_rfl) ?_;dsimp only[Tryz.f15]
  push_cast -dsimp
  exact ⟨[],rfl,rfl,by push_cast -dsimp [zb,za,CLe,ze,e,qL]⟩
 cases h2:HV p with
 | true =>
  rw[h2]at hlo
  have e:YU f b p follow=(qL,7):=by unfold YU;rw[if_neg h1,if_pos h2]
  refine Fun.of (fun _=>[]) Tryz.func15 rfl (zp rfl) (by kernel_rfl) ?_;dsimp only[Tryz.f15]
  push_cast -dsimp [h1]
  refine cl (hlo) ?_;push_cast -dsimp
  exact ⟨[],rfl,rfl,by push_cast -dsimp [zb,za,CLe,ze,e,qL]⟩
 | false =>
 rw[h2]at hlo
 cases h3:zbN p with
 | true =>
  rw[h3]at hre
  have e:YU f b p follow=onN f follow 40 (zE p) ⟨0,[],1⟩ (Yv p):=by unfold YU;rw[if_neg h1,if_neg (by rw[h2];decide),if_pos h3]
  have hon:=hon 1
  refine Fun.of (fun _=>[]) Tryz.func15 rfl (zp rfl) (by kernel_rfl) ?_;dsimp only[Tryz.f15]
  push_cast -dsimp [h1]
  refine cl (hlo) ?_;push_cast -dsimp
  refine cl (hre) ?_;push_cast -dsimp
  refine cl (hon) ?_;push_cast -dsimp
  exact ⟨[],rfl,rfl,by push_cast -dsimp [zb,za,CLe,ze,e]⟩
 | false =>
  rw[h3]at hre
  have hh:=zg5 f hf hs b hb
  by_cases h4:(Qh f b).2=0
  ·have e:YU f b p follow=onN f follow 40 (zE p) ⟨0,[],(Qh f b).1⟩ (Yv p):=by unfold YU;rw[if_neg h1,if_neg (by rw[h2];decide),if_neg (by rw[h3];decide),if_neg (fun q=>q h4)]
   have hon:=hon (Qh f b).1
   rw[h4]at hh
   refine Fun.of (fun _=>[]) Tryz.func15 rfl (zp rfl) (by kernel_rfl) ?_;dsimp only[Tryz.f15]
   push_cast -dsimp [h1]
   refine cl (hlo) ?_;push_cast -dsimp
   refine cl (hre) ?_;push_cast -dsimp
   refine cl (hh) ?_;push_cast -dsimp
   refine cl (hon) ?_;push_cast -dsimp
   exact ⟨[],rfl,rfl,by push_cast -dsimp [zb,za,CLe,ze,e]⟩
  ·have e:YU f b p follow=(qL,(Qh f b).2):=by unfold YU;rw[if_neg h1,if_neg (by rw[h2];decide),if_neg (by rw[h3];decide),if_pos h4]
   refine Fun.of (fun _=>[]) Tryz.func15 rfl (zp rfl) (by kernel_rfl) ?_;dsimp only[Tryz.f15]
   push_cast -dsimp [h1]
   refine cl (hlo) ?_;push_cast -dsimp
   refine cl (hre) ?_;push_cast -dsimp
   refine cl (hh) ?_;push_cast -dsimp [h4]
   exact ⟨[],rfl,rfl,by push_cast -dsimp [zb,za,CLe,ze,e,qL]⟩
end
section
open CA CB
open Go.RowKit
theorem UD (f:FsV) (b p n:List UInt8):Fun Tryz.prog GD 4 [.agg (fsC f),.str b,.str p,.str n] (jN true) 0:=by
 have h1:=(znd f).gd0
 by_cases hok:okV f
 case neg =>
  rw[decide_eq_false hok]at h1
  refine Fun.of (fun _=>[]) Tryz.func4 rfl (zp rfl) (by kernel_rfl) ?_;dsimp only[Tryz.f4]
  push_cast -dsimp
  refine cl (je) ?_;push_cast -dsimp
  refine cl (h1) ?_;push_cast -dsimp
  refine cl (je) ?_;push_cast -dsimp
  exact ⟨[],rfl,rfl,by push_cast -dsimp [zb,za,CLe,ze]⟩
 rw[decide_eq_true hok]at h1
 have h2:=(zaa f b p).gd0
 cases hsh:VG f b p with
 | false =>
  rw[hsh]at h2
  refine Fun.of (fun _=>[]) Tryz.func4 rfl (zp rfl) (by kernel_rfl) ?_;dsimp only[Tryz.f4]
  push_cast -dsimp
  refine cl (je) ?_;push_cast -dsimp
  refine cl (h1) ?_;push_cast -dsimp
  refine cl (h2) ?_;push_cast -dsimp
  refine cl (je) ?_;push_cast -dsimp
  exact ⟨[],rfl,rfl,by push_cast -dsimp [zb,za,CLe,ze]⟩
 | true =>
 rw[hsh]at h2
 obtain ⟨hb,hp⟩:(b.length:Int)<=1000/\(p.length:Int)<=5000:=by
  unfold VG at hsh
  rw[Bool.and_eq_true,Bool.and_eq_true,decide_eq_true_eq,decide_eq_true_eq]at hsh
  exact ⟨hsh.1.2,hsh.2⟩
 by_cases hn:1000<(n.length:Int)
 ·refine Fun.of (fun _=>[]) Tryz.func4 rfl (zp rfl) (by kernel_rfl) ?_;dsimp only[Tryz.f4]
  push_cast -dsimp
  refine cl (je) ?_;push_cast -dsimp
  refine cl (h1) ?_;push_cast -dsimp
  refine cl (h2) ?_;push_cast -dsimp [hn]
  refine cl (je) ?_;push_cast -dsimp
  exact ⟨[],rfl,rfl,by push_cast -dsimp [zb,za,CLe,ze]⟩
 have h3:=(Ug p n (by omega) (by omega)).gd0
 have h4:=(kA p n (by omega) (by omega)).gd0
 have hfs:=(qx hok).1.fs
 have hfi:FsI f:=NS hok.2
 have h5:=(zeO f hfi hfs b p false (by omega) (by omega)).gd0
 have hsn:=uY hfs b p false (by omega)
 have h6:=(Zr (YU f b p false).1.name (by omega)).gd0
 have hg:=@zeq f b p false
 generalize YU f b p false=s at h5 hsn h6 hg
 generalize XV p n=j at h3 h4
 by_cases he:s.2=0
 case neg =>
  refine Fun.of (fun _=>[]) Tryz.func4 rfl (zp rfl) (by kernel_rfl) ?_;dsimp only[Tryz.f4]
  push_cast -dsimp
  refine cl (je) ?_;push_cast -dsimp
  refine cl (h1) ?_;push_cast -dsimp
  refine cl (h2) ?_;push_cast -dsimp [hn]
  refine cl (h3) ?_;push_cast -dsimp
  refine cl (h4) ?_;push_cast -dsimp
  refine cl (h5) ?_;push_cast -dsimp [he]
  exact ⟨[],rfl,rfl,by push_cast -dsimp [zb,za,CLe,ze]⟩
 cases hm:may s.1.name with
 | false =>
  rw[hm]at h6
  refine Fun.of (fun _=>[]) Tryz.func4 rfl (zp rfl) (by kernel_rfl) ?_;dsimp only[Tryz.f4]
  push_cast -dsimp
  refine cl (je) ?_;push_cast -dsimp
  refine cl (h1) ?_;push_cast -dsimp
  refine cl (h2) ?_;push_cast -dsimp [hn]
  refine cl (h3) ?_;push_cast -dsimp
  refine cl (h4) ?_;push_cast -dsimp
  refine cl (h5) ?_;push_cast -dsimp [he]
  refine cl (h6) ?_;push_cast -dsimp
  exact ⟨[],rfl,rfl,by push_cast -dsimp [zb,za,CLe,ze]⟩
 | true =>
  rw[hm]at h6
  rcases hg he with hg | ⟨hh,hk⟩
  ·rw[hg]at hm;exact absurd hm (by decide)
  have h7:=(GS f hok s.1 hh hk hm).gd0
  have h8:=(zeA f hok s.1 hh hk hm).gd0
  generalize ZZ f s.1=q at h7 h8
  refine Fun.of (fun _=>[]) Tryz.func4 rfl (zp rfl) (by kernel_rfl) ?_;dsimp only[Tryz.f4]
  push_cast -dsimp
  refine cl (je) ?_;push_cast -dsimp
  refine cl (h1) ?_;push_cast -dsimp
  refine cl (h2) ?_;push_cast -dsimp [hn]
  refine cl (h3) ?_;push_cast -dsimp
  refine cl (h4) ?_;push_cast -dsimp
  refine cl (h5) ?_;push_cast -dsimp [he]
  refine cl (h6) ?_;push_cast -dsimp
  refine cl (h7) ?_;push_cast -dsimp
  refine cl (h8) ?_;push_cast -dsimp
  exact ⟨[],rfl,rfl,by push_cast -dsimp [zb,za,CLe,ze]⟩
end
end Go.Proofs.YtiblepfehggicaaGreatDoor.Vcg
section
namespace Go.Proofs.YtiblepfehggicaaGreatDoor.PDraftPaths
open Go.ChangeShapes Go.WideShapes Go.ChangeAt Go.RowKit Vcg
theorem own:ownKnob Tryz.prog.godebug=none:=by kernel_rfl
theorem laidOut:laidOutB Tryz.prog=true:=by kernel_rfl
theorem contract (H:Type) (enc:TypeId×Value->H) (W:World) (base:Nat) (args:Array Value) (ds gs:List (DataW H)) (before:List MemPlace)
  (hval:∀ (j:Nat) t v,Tryz.f4.params[j]?=some t->args[j]?=some v->Value.okWide Tryz.prog W .any base t v)
  (hW:DataW.Whole enc Tryz.prog Tryz.f4.params.toList Rows.draftPathsSpec.vars false W args.toList ds gs before) (hL:laidMetH Tryz.prog Rows.draftPathsRow.laid W) :
  Calls Tryz.prog 4 args W fun e W'=>∃ v,e = .returned v/\Rows.draftPathsSpec.post enc Tryz.prog Tryz.f4 false true false false W args v W':=by
 have hW':=hW
 obtain ⟨p,q,hA0,hV,rfl,hfz,hnd⟩:=hW
 have hA:DataW.TrodAll enc Tryz.prog W 0 (fun _=>true) true Tryz.f4.params.toList args.toList ds p:=hA0
 rw[Tryz.params4]at hA hval
 obtain ⟨v0,vs0,d0,ds0,p0,q0,hargs,rfl,rfl,h0,r0⟩:=trodAll_cons hA
 obtain ⟨v1,vs1,d1,ds1,p1,q1,rfl,rfl,rfl,h1,r1⟩:=trodAll_cons r0
 obtain ⟨v2,vs2,d2,ds2,p2,q2,rfl,rfl,rfl,h2,r2⟩:=trodAll_cons r1
 obtain ⟨v3,vs3,d3,ds3,p3,q3,rfl,rfl,rfl,h3,r3⟩:=trodAll_cons r2
 obtain ⟨rfl,rfl,rfl⟩:=trodAll_nil r3
 obtain rfl:args = #[v0,v1,v2,v3]:=by cases args;simp_all
 obtain ⟨rfl,rfl⟩:=trodVars_none hV
 have lt0:∀ x∈p0,x.block<W.heap.size:=by obtain ⟨m,hm⟩:=h0;exact DataW.trod_lt m _ _ _ hm
 have lt1:∀ x∈p1,x.block<W.heap.size:=by obtain ⟨m,hm⟩:=h1;exact DataW.trod_lt m _ _ _ hm
 have lt2:∀ x∈p2,x.block<W.heap.size:=by obtain ⟨m,hm⟩:=h2;exact DataW.trod_lt m _ _ _ hm
 have lt3:∀ x∈p3,x.block<W.heap.size:=by obtain ⟨m,hm⟩:=h3;exact DataW.trod_lt m _ _ _ hm
 obtain ⟨row0,⟨a0,rfl,w0⟩,rep0⟩:=Yc.arg zna Tryz.underlying24 (hval 0 24 v0 rfl rfl) h0
 obtain ⟨n1,hn1⟩:=okWide_string Tryz.underlying9 (hval 1 9 v1 rfl rfl)
 obtain ⟨_,⟨a1,rfl,w1⟩,rep1⟩:=Opn.arg (r:=.any) (b0:=base) (Opn.str Tryz.underlying9) (by rw[hn1];rfl) h1
 obtain ⟨n2,hn2⟩:=okWide_string Tryz.underlying9 (hval 2 9 v2 rfl rfl)
 obtain ⟨_,⟨a2,rfl,w2⟩,rep2⟩:=Opn.arg (r:=.any) (b0:=base) (Opn.str Tryz.underlying9) (by rw[hn2];rfl) h2
 obtain ⟨n3,hn3⟩:=okWide_string Tryz.underlying9 (hval 3 9 v3 rfl rfl)
 obtain ⟨_,⟨a3,rfl,w3⟩,rep3⟩:=Opn.arg (r:=.any) (b0:=base) (Opn.str Tryz.underlying9) (by rw[hn3];rfl) h3
 clear hA0
 refine (Fun.answers (UD a0 a1 a2 a3) (zoU hL (by kernel_rfl) (by repeat (first | exact List.mem_cons_self | refine List.mem_cons_of_mem _ ?_)) (by repeat (first | exact List.mem_cons_self | refine List.mem_cons_of_mem _ ?_)) (by repeat (first | exact List.mem_cons_self | refine List.mem_cons_of_mem _ ?_)) (by repeat (first | exact List.mem_cons_self | refine List.mem_cons_of_mem _ ?_))) (zd.2 ⟨_,_,rfl,rep0,zd.2 ⟨_,_,rfl,rep1,zd.2 ⟨_,_,rfl,rep2,zd.2 ⟨_,_,rfl,rep3,zh.2 rfl⟩⟩⟩⟩)).mono fun e W' ⟨he,bel⟩=>?_
 subst he
 exact ⟨_,rfl,_,_,_,[],_,[],hW',trodAll_mk1 (shut_bool Tryz.underlying4 _),(trodAll_cons_mk (Below.trod laidOut (by kernel_rfl) (of_decide_eq_true (by kernel_rfl)) h0 bel lt0) (trodAll_cons_mk (Below.trod laidOut (by kernel_rfl) (of_decide_eq_true (by kernel_rfl)) h1 bel lt1) (trodAll_cons_mk (Below.trod laidOut (by kernel_rfl) (of_decide_eq_true (by kernel_rfl)) h2 bel lt2) (trodAll_cons_mk (Below.trod laidOut (by kernel_rfl) (of_decide_eq_true (by kernel_rfl)) h3 bel lt3) trodAll_mk0)))),rfl,bel.frame _,fun h=>by cases h⟩
theorem lifted (os:Os) (started:os.Started) (H:Type) (enc:TypeId×Value->H) :
  ReturnsInHanded {} Tryz.checked os 4 .any (fun w args=>(Rows.draftPathsSpec.pre enc Tryz.prog Tryz.f4 Rows.draftPathsRow.domain false w args/\laidMetH Tryz.prog Rows.draftPathsRow.laid w)/\sizedMet enc Tryz.prog Tryz.f4 (OpenSpec.ofChange Rows.draftPathsSpec) false w args)
   (Rows.draftPathsSpec.post enc Tryz.prog Tryz.f4 false true false false):=by
 refine returnsInHanded_of_change_and (C:=Tryz.checked) (X:=fun w _=>laidMetH Tryz.prog Rows.draftPathsRow.laid w) (fun _ _ _ hh h=>h.of_heap hh) own started (by kernel_rfl) Tryz.func4
  (ChangeSpec.witness_shaped (enc:=enc) (C:=Tryz.checked) (os:=os) (X:=fun w _=>laidMetH Tryz.prog Rows.draftPathsRow.laid w) false (World.laidAll Tryz.prog os Rows.draftPathsRow.laid) #[.agg #[.int .i64 0,.int .i64 0,.int .i64 0,.slice none 0 0],.string ⟨#[]⟩,.string ⟨#[]⟩,.string ⟨#[]⟩] 8 (World.laidAll_os _ _ _)
   (World.shaped_of_ZipB (by kernel_rfl) (by kernel_rfl)) (by kernel_rfl) (by kernel_rfl) (by kernel_rfl)
   (by rw[MakeChecks.laidMetH_plain _ _ _ (by kernel_rfl)];exact laidMet_laidAll _ (by kernel_rfl) (by kernel_rfl))) ?_
 intro W base args ds gs before hval hW _ _ hL _
 exact contract H enc W base args ds gs before hval hW hL
theorem said:Rows.DraftPathsSaid:=
 OpenClaim.holds_of_wide 4 Tryz.f4 rfl rfl rfl rfl rfl rfl rfl ⟨rfl,rfl,rfl,rfl,rfl⟩ rfl rfl rfl rfl rfl (by kernel_rfl) Tryz.func4 (by kernel_rfl)
  (of_decide_eq_true (by kernel_rfl)) (by unfold Func.isWrapper;first | (rw[if_pos (by decide +kernel)];kernel_rfl) | (rw[if_neg (by decide +kernel)];exact ⟨rfl,rfl⟩))
  (fun os started H enc _=>lifted os started H enc)
theorem XA (f:FuncId) (fn:Func) (hf:Tryz.pinned.checked.prog.funcNamed "drayman/draymanlaw25.DraftPaths"=some f) (hfn:Tryz.pinned.checked.prog.funcs[f]?=some fn) :
  false=Tryz.pinned.checked.prog.looks []/\∀ (j:Nat) t,fn.params[j]?=some t->Tryz.pinned.checked.prog.wantsStandIn t=false:=by
 obtain rfl:f=4:=Option.some.inj ((show Tryz.prog.funcNamed "drayman/draymanlaw25.DraftPaths"=some 4 by kernel_rfl).symm.trans hf) |>.symm
 obtain rfl:fn=Tryz.f4:=(Option.some.inj (Tryz.func4.symm.trans hfn)).symm
 exact ⟨by kernel_rfl,fun j t ht=>by
  rw[Tryz.params4]at ht
  have hm:t∈[24,9,9,9]:=by simpa using Array.mem_of_getElem? ht
  have hall:([24,9,9,9].all fun u=>!Tryz.prog.wantsStandIn u)=true:=by kernel_rfl
  exact (show Tryz.prog.wantsStandIn t=false by simpa using List.all_eq_true.1 hall t hm)⟩
theorem card:Rows.DraftPathsCardSaid:=
 Claim7.holds_tied_plain_at .later [] _ _ _ _ said (fun _ h=>by cases h) (by kernel_rfl) (fun _ h=>by cases h) draftPaths_row_tie rfl ⟨rfl,rfl⟩ (by kernel_rfl) rfl XA (by kernel_rfl)
theorem proved:Rows.DraftPathsCardSaid:=card
end Go.Proofs.YtiblepfehggicaaGreatDoor.PDraftPaths
end
