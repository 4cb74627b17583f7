/- What the proof of DraftLeads leans on, part 5: Snd3 Snd4 Snd5 Snd6 Snd7 Rf9 Rf10 Grw Con Kit KitBytes QuoteWalk1 Builder QuoteWalk2 Diag1 Spl Diag2 Diag3 Diag4 Dra3 Ref19b Ref19c Rf11 Ref8 Wlk1 Wlk2 Tree1 Mak0 Tree2 Tree3 Tree4 Tree5 Tree6 Tree7 Dra4 Mak1 Mak2 Mak3 OpenD Rgt0 Rgt1. No condition beyond what each theorem states. -/
import Derived.Test.YtiblepfehggicaaGreatDoorDraftLeadsKd
import Derived.WalkKit
import Derived.Lib.Hide
import Derived.Lib.Join
import Derived.Deep.Draws
import Derived.Lib.SlBytesRow
import Derived.StillTailTactics
import Derived.Test.YtiblepfehggicaaGreatDoorProg
import Derived.WalkLawsBesides
import Derived.WalkSpells
import Derived.Shelf.Strings.Builder1
import Derived.Shelf.Strings.BuilderF
import Derived.Shelf.Strings.SlTrimAscii
import Derived.Sort.Walk0
set_option linter.unusedVariables false
set_option linter.unusedSimpArgs false
set_option linter.unusedSectionVars false
set_option maxRecDepth 100000
set_option maxHeartbeats 4000000
namespace Go.Proofs.YtiblepfehggicaaGreatDoor.Vcg
section
open Go.RowKit
abbrev Z4 (x:zp) (es:List zZ):List (Int×Int):=es.map fun e=>(e.ino,x.ino)
def qp (xs:List zp):List (Int×Int):=xs.flatMap fun x=>Z4 x x.es
def Q5 (n:Int) (l:List (Int×Int)):Nat:=(l.filter fun p=>p.1==n).length
def VV (n:Int) (l:List (Int×Int)):Int:=(((l.filter fun p=>p.1==n).getLast?).map (·.2)).getD 0
theorem zk7 {n:Int} {l:List (Int×Int)} {p:Int×Int}:Q5 n (l++[p])=Q5 n l+if p.1=n then 1 else 0:=by
 unfold Q5
 rw[List.filter_append,List.length_append]
 by_cases h:p.1=n<;>simp[h]
theorem ziJ {n:Int} {l:List (Int×Int)} {p:Int×Int}:VV n (l++[p])=if p.1=n then p.2 else VV n l:=by
 unfold VV
 rw[List.filter_append]
 by_cases h:p.1=n<;>simp[h]
theorem zcl {xs:List zp} {i:Nat} (h:i<xs.length):qp (xs.take (i+1))=qp (xs.take i)++Z4 xs[i] xs[i].es:=by
 unfold qp
 rw[List.take_add_one,List.getElem?_eq_getElem h,List.flatMap_append]
 simp
theorem zaO {x:zp} {es:List zZ} {k:Nat} (h:k<es.length):Z4 x (es.take (k+1))=Z4 x (es.take k)++[(es[k].ino,x.ino)]:=by
 rw[List.take_add_one,List.getElem?_eq_getElem h,Option.toList_some]
 exact List.map_append
theorem zgk {xs:List zp} (hf:∀ x∈xs,x.es.length<=10000):(qp xs).length<=xs.length*10000:=by
 induction xs with
 | nil=>exact Nat.le_refl _
 | cons x r ih =>
  have h1:=hf x List.mem_cons_self
  have h2:=ih fun y hy=>hf y (List.mem_cons_of_mem _ hy)
  unfold qp at h2 ⊢
  rw[List.flatMap_cons,List.length_append,List.length_map,List.length_cons]
  omega
theorem zpb {n:Int} {l:List (Int×Int)}:Q5 n l<=l.length:=List.length_filter_le _ _
def Vp (xs:List zp) (x:zp):Prop:=x.links=Q5 x.ino (qp xs)/\if x.ino=1 then Q5 x.ino (qp xs)=0/\x.parent=1 else 1<=Q5 x.ino (qp xs)/\(x.kind=2->Q5 x.ino (qp xs)=1/\x.parent=VV x.ino (qp xs))
instance (xs:List zp) (x:zp):Decidable (Vp xs x):=by unfold Vp;infer_instance
def YO (f:FsV):Prop:=∀ x∈f.xs,Vp f.xs x
instance (f:FsV):Decidable (YO f):=by unfold YO;infer_instance
section
variable {G:zr}
theorem zbw (f:FsV) (n:Int) (hf:FsS f):Fun Tryz.prog G 113 [.agg (fsC f),.sc (.int .i64 n)] (.tup [.sc (.int .i64 (Q5 n (qp f.xs):Nat)),.sc (.int .i64 (VV n (qp f.xs)))]) 0:=by
 have hll:(zt f.xs).length=f.xs.length:=List.length_map ..
 have h40:=hf.len
 have hc0:Q5 n (qp [])=0:=rfl
 have hl0:VV n (qp [])=0:=rfl
 refine fon Tryz.func113 ?_;dsimp only[Tryz.f113]
 push_cast -dsimp
 refine loop (fun i:Nat=>⟨[(1,.sc (.int .i64 n)),(2,.ptr 0 0),(6,.sc (.int .i64 (Q5 n (qp (f.xs.take i)):Nat))),(7,.sc (.int .i64 (VV n (qp (f.xs.take i))))),(8,.sc (.int .i64 i))],[fsC f],0,0⟩) (fun i=>i<=f.xs.length) (fun i=>f.xs.length-i) 0 (Nat.zero_le _) ?_ ?_
 ·exact wk (by push_cast -dsimp [ze,zd,CLe,zg,List.take_zero,hc0,hl0])
 ·intro i h1
  by_cases h:i<f.xs.length
  ·have g1:=jb f.xs i h
   have hle:(zJ f.xs[i].es).length=f.xs[i].es.length:=List.length_map ..
   have hpl:(qp (f.xs.take i)).length<=i*10000:=by
    have:=zgk (xs:=f.xs.take i) fun x hx=>(hf.node x (List.mem_of_mem_take hx)).1
    rw[List.length_take]at this
    exact Nat.le_trans this (Nat.mul_le_mul_right _ (Nat.min_le_left _ _))
   have h40e:=(hf.node _ (List.getElem_mem h)).1
   push_cast -dsimp [hll,h]
   refine loop (fun k:Nat=>⟨[(1,.sc (.int .i64 n)),(2,.ptr 0 0),(6,.sc (.int .i64 (Q5 n (qp (f.xs.take i)++Z4 f.xs[i] (f.xs[i].es.take k)):Nat))),(7,.sc (.int .i64 (VV n (qp (f.xs.take i)++Z4 f.xs[i] (f.xs[i].es.take k))))),(8,.sc (.int .i64 i)),(9,.sc (.int .i64 k))],[fsC f],0,0⟩) (fun k=>k<=f.xs[i].es.length) (fun k=>f.xs[i].es.length-k) 0 (Nat.zero_le _) ?_ ?_
   ·exact wk (by push_cast -dsimp [ze,zd,CLe,zg,List.take_zero,List.append_nil])
   ·intro k hk0
    by_cases hk:k<f.xs[i].es.length
    ·have g2:=Ja f.xs[i].es k hk
     have ht:=zaO (x:=f.xs[i]) hk
     have hcl:=zpb (n:=n) (l:=qp (f.xs.take i)++Z4 f.xs[i] (f.xs[i].es.take k))
     rw[List.length_append,List.length_map,List.length_take]at hcl
     have hca:=zk7 (n:=n) (l:=qp (f.xs.take i)++Z4 f.xs[i] (f.xs[i].es.take k)) (p:=(f.xs[i].es[k].ino,f.xs[i].ino))
     have hla:=ziJ (n:=n) (l:=qp (f.xs.take i)++Z4 f.xs[i] (f.xs[i].es.take k)) (p:=(f.xs[i].es[k].ino,f.xs[i].ino))
     rw[List.append_assoc,←ht]at hca hla
     by_cases hc:f.xs[i].es[k].ino=n
     ·rw[if_pos hc]at hca hla
      push_cast -dsimp [g1,hle,hk,g2,hc]
      repeat refine an ?_
      exact ⟨k+1,hk,by omega,wk (by push_cast -dsimp [ze,zd,CLe,zg,hca,hla])⟩
     ·rw[if_neg hc]at hca hla
      push_cast -dsimp [g1,hle,hk,g2,hc]
      repeat refine an ?_
      exact ⟨k+1,hk,by omega,wk (by push_cast -dsimp [ze,zd,CLe,zg,hca,hla])⟩
    ·have hkk:f.xs[i].es.take k=f.xs[i].es:=List.take_of_length_le (by omega)
     rw[hkk]
     have ht:=zcl h
     push_cast -dsimp [g1,hle,hk]
     repeat refine an ?_
     exact ⟨i+1,h,by omega,wk (by push_cast -dsimp [ze,zd,CLe,zg,ht])⟩
  ·rw[List.take_of_length_le (by omega)]
   push_cast -dsimp [hll,h]
   exact dn
end
end
section
open CA CB
open Go.RowKit
section
variable {G:zr}
theorem Hf (f:FsV) (hf:FsS f):Fun Tryz.prog G 70 [.agg (fsC f)] (.sc (.bool (decide (YO f)))) 0:=by
 have hll:(zt f.xs).length=f.xs.length:=List.length_map ..
 have h40:=hf.len
 refine fon Tryz.func70 ?_;dsimp only[Tryz.f70]
 push_cast -dsimp
 refine loop (fun i:Nat=>⟨[(1,.ptr 0 0),(3,.sc (.int .i64 i))],[fsC f],0,0⟩) (fun i=>i<=f.xs.length/\∀ x∈f.xs.take i,Vp f.xs x) (fun i=>f.xs.length-i) 0 ⟨Nat.zero_le _,fun x hx=>by simp at hx⟩ ?_ ?_
 ·exact wk
 ·rintro i ⟨h1,h2⟩
  by_cases h:i<f.xs.length
  ·have g1:=jb f.xs i h
   have hbad:¬Vp f.xs f.xs[i]->¬YO f:=fun hn h'=>hn (h' _ (List.getElem_mem h))
   have hdef:Vp f.xs f.xs[i]↔f.xs[i].links=Q5 f.xs[i].ino (qp f.xs)/\if f.xs[i].ino=1 then Q5 f.xs[i].ino (qp f.xs)=0/\f.xs[i].parent=1 else 1<=Q5 f.xs[i].ino (qp f.xs)/\(f.xs[i].kind=2->Q5 f.xs[i].ino (qp f.xs)=1/\f.xs[i].parent=VV f.xs[i].ino (qp f.xs)):=Iff.rfl
   push_cast -dsimp [hll,h,g1]
   repeat refine an ?_
   refine cl (zbw f f.xs[i].ino hf) ?_;push_cast -dsimp
   generalize Q5 f.xs[i].ino (qp f.xs)=c at hdef
   generalize VV f.xs[i].ino (qp f.xs)=d at hdef
   by_cases c1:f.xs[i].links=(c:Int)
   case neg =>
    have hn:=hbad fun h=>c1 (hdef.1 h).1
    push_cast -dsimp [c1]
    exact dn (by push_cast -dsimp [ze,zd,CLe,zg,hn])
   by_cases c2:f.xs[i].ino=1
   ·rw[if_pos c2]at hdef
    by_cases c3:(c:Int)=0
    ·by_cases c4:f.xs[i].parent=1
     ·push_cast -dsimp [c1,c2,c3,c4]
      repeat refine an ?_
      exact ⟨i+1,⟨h,qo h h2 (hdef.2 ⟨c1,by omega,c4⟩)⟩,by omega,wk⟩
     ·have hn:=hbad fun h=>c4 (hdef.1 h).2.2
      push_cast -dsimp [c1,c2,c3,c4]
      exact dn (by push_cast -dsimp [ze,zd,CLe,zg,hn])
    ·have hn:=hbad fun h=>by have:=(hdef.1 h).2.1;omega
     push_cast -dsimp [c1,c2,c3]
     exact dn (by push_cast -dsimp [ze,zd,CLe,zg,hn])
   ·rw[if_neg c2]at hdef
    by_cases c3:(c:Int)<1
    ·have hn:=hbad fun h=>by have:=(hdef.1 h).2.1;omega
     push_cast -dsimp [c1,c2,c3]
     exact dn (by push_cast -dsimp [ze,zd,CLe,zg,hn])
    by_cases c4:f.xs[i].kind=2
    ·by_cases c5:(c:Int)=1
     ·by_cases c6:f.xs[i].parent=d
      ·push_cast -dsimp [c1,c2,c3,c4,c5,c6]
       repeat refine an ?_
       exact ⟨i+1,⟨h,qo h h2 (hdef.2 ⟨c1,by omega,fun _=>⟨by omega,c6⟩⟩)⟩,by omega,wk⟩
      ·have hn:=hbad fun h=>c6 ((hdef.1 h).2.2 c4).2
       push_cast -dsimp [c1,c2,c3,c4,c5,c6]
       exact dn (by push_cast -dsimp [ze,zd,CLe,zg,hn])
     ·have hn:=hbad fun h=>by have:=((hdef.1 h).2.2 c4).1;omega
      push_cast -dsimp [c1,c2,c3,c4,c5]
      exact dn (by push_cast -dsimp [ze,zd,CLe,zg,hn])
    ·push_cast -dsimp [c1,c2,c3,c4]
     repeat refine an ?_
     exact ⟨i+1,⟨h,qo h h2 (hdef.2 ⟨c1,by omega,fun h=>absurd h c4⟩)⟩,by omega,wk⟩
  ·rw[List.take_of_length_le (by omega)]at h2
   have hn:YO f:=h2
   push_cast -dsimp [hll,h]
   exact dn (by push_cast -dsimp [ze,zd,CLe,zg,hn])
end
end
section
open CA CB
open Go.RowKit
abbrev zbs (S:List Int):List (List C):=S.map fun n=>[C.sc (.int .i64 n)]
def Yr (S:List Int) (n:Int):List Int:=if n∈S then S else S++[n]
def kL (S:List Int) (es:List zZ):List Int:=es.foldl (fun s e=>Yr s e.ino) S
def QY (xs:List zp):Nat->Nat->List Int->List Int
 | 0,_,S=>S
 | m+1,i,S=>match S[i]? with
  | some n=>QY xs m (i+1) (kL S (zh n xs).es)
  | none=>S
def QC (f:FsV):Prop:=(QY f.xs (f.xs.length+1) 0 [1]).length=f.xs.length
instance (f:FsV):Decidable (QC f):=by unfold QC;infer_instance
theorem V4:∀ {S T:List Int},S.Nodup->(∀ n∈S,n∈T)->S.length<=T.length
 | [],T,_,_=>Nat.zero_le _
 | a :: r,T,hn,hs=>by
  have ha:=hs a List.mem_cons_self
  obtain ⟨h1,h2⟩:=List.nodup_cons.1 hn
  have:=V4 (S:=r) (T:=T.erase a) h2 fun n hr=>(List.mem_erase_of_ne (fun e=>h1 (by rw[←e];exact hr))).2 (hs n (List.mem_cons_of_mem _ hr))
  rw[List.length_erase_of_mem ha]at this
  have hpos:=List.length_pos_iff.2 (List.ne_nil_of_mem ha)
  rw[List.length_cons];omega
theorem No {n:Int} {xs:List zp}:zn n xs=true↔n∈xs.map (·.ino):=by
 unfold zn
 rw[List.any_eq_true,List.mem_map]
 simp
theorem ZB {S:List Int} {xs:List zp} (hn:S.Nodup) (hs:∀ n∈S,zn n xs=true):S.length<=xs.length:=by
 have:=V4 (T:=xs.map (·.ino)) hn fun n h=>No.1 (hs n h)
 rwa [List.length_map]at this
theorem Me {S:List Int} {n:Int} (h:S.Nodup):(Yr S n).Nodup:=by
 unfold Yr
 split
 ·exact h
 ·rw[List.nodup_append]
  refine ⟨h,by simp,fun a ha b hb e=>?_⟩
  simp at hb;subst hb;subst e;contradiction
theorem Hg {S:List Int} {n m:Int}:m∈Yr S n↔m∈S∨m=n:=by
 unfold Yr
 split
 ·constructor
  ·exact .inl
  ·rintro (h | h)
   ·exact h
   ·rw[h];assumption
 ·simp
theorem jt {n:Int} {xs:List zp} (h:zn n xs=true):zh n xs∈xs/\(zh n xs).ino=n:=by
 unfold zn at h
 unfold zh Xb
 cases hq:xs.find? fun x=>x.ino==n with
 | none =>
  rw[List.find?_eq_none]at hq
  obtain ⟨x,hx,he⟩:=List.any_eq_true.1 h
  exact absurd he (hq x hx)
 | some y =>
  exact ⟨List.mem_of_find?_eq_some hq,by simpa using List.find?_some hq⟩
theorem zfG {S:List Int} {es:List zZ} {k:Nat} (h:k<es.length):kL S (es.take (k+1))=Yr (kL S (es.take k)) es[k].ino:=by
 unfold kL
 rw[List.take_add_one,List.getElem?_eq_getElem h,List.foldl_append]
 rfl
theorem zhh (es:List zZ):∀ (S:List Int),S <+: kL S es:=by
 induction es with
 | nil=>exact fun S=>List.prefix_refl S
 | cons e r ih =>
  intro S
  refine List.IsPrefix.trans ?_ (ih (Yr S e.ino))
  unfold Yr
  split
  ·exact List.prefix_refl S
  ·exact List.prefix_append S _
theorem zix (S:List Int) (es:List zZ):S.length<=(kL S es).length:=(zhh es S).length_le
structure Yx (xs:List zp) (S:List Int):Prop where
 nodup:S.Nodup
 has:∀ n∈S,zn n xs=true
theorem Yx.len {xs:List zp} {S:List Int} (h:Yx xs S):S.length<=xs.length:=ZB h.nodup h.has
theorem Yx.one {xs:List zp} {S:List Int} {n:Int} (h:Yx xs S) (hn:zn n xs=true):Yx xs (Yr S n):=⟨Me h.nodup,fun m hm=>by
 rcases Hg.1 hm with hm | rfl
 ·exact h.has m hm
 ·exact hn⟩
theorem zff {S:List Int} {n:Int} {j:Nat} (h:j<S.length):((S.take (j+1)).any fun m=>decide (m=n))=(((S.take j).any fun m=>decide (m=n))||decide (S[j]=n)):=by
 rw[List.take_add_one,List.getElem?_eq_getElem h,List.any_append]
 simp
theorem zlo {S:List Int} {n:Int}:(S.any fun m=>decide (m=n))=decide (n∈S):=by
 rw[Bool.eq_iff_iff,List.any_eq_true,decide_eq_true_iff]
 constructor
 ·rintro ⟨m,hm,h⟩;exact (of_decide_eq_true h)▸hm
 ·exact fun h=>⟨n,h,decide_eq_true rfl⟩
theorem vV (S:List Int) (i:Nat) (h:i<S.length):(zbs S)[i]?=some [.sc (.int .i64 S[i])]:=by simp[List.getElem?_map,List.getElem?_eq_getElem h]
section
variable {G:zr}
theorem Nw (f:FsV) (hf:FsS f) (h3:Yt f) (h1:zn 1 f.xs=true):Fun Tryz.prog G 71 [.agg (fsC f)] (.sc (.bool (decide (QC f)))) 0:=by
 have hll:(zt f.xs).length=f.xs.length:=List.length_map ..
 have h40:=hf.len
 refine fof (fun i=>if i=5 then Ut 9 10 else []) Tryz.func71 ?_;dsimp only[Tryz.f71]
 push_cast -dsimp
 refine loop (fun p:Nat×List Int=>⟨[(1,.ptr 0 0),(3,.own 0 3 1 (zbs p.2)),(4,.sc (.int .i64 p.1))],[fsC f],1,0⟩) (fun p=>p.1<=p.2.length/\Yx f.xs p.2/\QY f.xs (f.xs.length+1-p.1) p.1 p.2=QY f.xs (f.xs.length+1) 0 [1]) (fun p=>f.xs.length+1-p.1) (0,[1]) ⟨Nat.zero_le _,⟨by simp,fun n hn=>by simp at hn;subst hn;exact h1⟩,rfl⟩ ?_ ?_
 ·exact wks [.inl 0]
 ·rintro ⟨i,S⟩ ⟨k1,k2,k3⟩
  dsimp only at k1 k2 k3 ⊢
  have hSl:=k2.len
  have hli:(zbs S).length=S.length:=List.length_map ..
  by_cases h:i<S.length
  ·have g0:=vV S i h
   obtain ⟨hm,hino⟩:=jt (k2.has S[i] (List.getElem_mem h))
   push_cast -dsimp [hli,h,g0]
   repeat refine an ?_
   refine cl (qG f S[i] (by omega)) ?_;push_cast -dsimp
   rw[show f.xs.length+1-i=(f.xs.length+1-(i+1))+1 by omega,QY,List.getElem?_eq_getElem h]at k3
   dsimp only at k3
   generalize zh S[i] f.xs=x at hm hino k3
   have hx40:=(hf.node x hm).1
   have hle:(zJ x.es).length=x.es.length:=List.length_map ..
   refine loop (fun k:Nat=>⟨[(1,.ptr 0 0),(3,.own 0 3 1 (zbs (kL S (x.es.take k)))),(4,.sc (.int .i64 i)),(5,.ptr 1 0),(7,.sc (.int .i64 k))],[fsC f,J4 x],1,0⟩) (fun k=>k<=x.es.length/\Yx f.xs (kL S (x.es.take k))) (fun k=>x.es.length-k) 0 ⟨Nat.zero_le _,k2⟩ ?_ ?_
   ·exact wks [.inl 0] (by push_cast -dsimp [ze,zd,CLe,zg,List.take_zero,kL,List.foldl_nil])
   ·rintro k ⟨hk0,k4⟩
    by_cases hk:k<x.es.length
    ·have g2:=Ja x.es k hk
     have hT:=k4.len
     have ht:=zfG (S:=S) hk
     have hhas:zn x.es[k].ino f.xs=true:=h3 x hm _ (List.getElem_mem hk)
     have k5:=k4.one hhas
     rw[←ht]at k5
     generalize hT1:kL S (x.es.take (k+1))=T1 at ht k5
     generalize kL S (x.es.take k)=T at k4 hT ht
     have hlT:(zbs T).length=T.length:=List.length_map ..
     generalize hn:x.es[k].ino=n at g2 ht
     push_cast -dsimp [hle,hk]
     refine loop (fun j:Nat=>⟨[(1,.ptr 0 0),(3,.own 0 3 1 (zbs T)),(4,.sc (.int .i64 i)),(5,.ptr 1 0),(7,.sc (.int .i64 k)),(8,.sc (.bool ((T.take j).any fun m=>decide (m=n)))),(9,.sc (.int .i64 j))],[fsC f,J4 x],1,0⟩) (fun j=>j<=T.length) (fun j=>T.length-j) 0 (Nat.zero_le _) ?_ ?_
     ·exact wks [.inl 0] (by push_cast -dsimp [ze,zd,CLe,zg,List.take_zero,List.any_nil])
     ·intro j hj0
      by_cases hj:j<T.length
      ·have g3:=vV T j hj
       have ha:=zff (n:=n) hj
       by_cases hq:((T.take j).any fun m=>decide (m=n))=true
       ·rw[hq,Bool.true_or]at ha
        push_cast -dsimp [hlT,hj,hq]
        repeat refine an ?_
        exact ⟨j+1,hj,by omega,wks [.inl 0] (by push_cast -dsimp [ze,zd,CLe,zg,ha])⟩
       ·have hq:=Bool.eq_false_iff.2 hq
        rw[hq,Bool.false_or]at ha
        push_cast -dsimp [hlT,hj,hq,g3,g2,hn]
        repeat refine an ?_
        exact ⟨j+1,hj,by omega,wks [.inl 0] (by push_cast -dsimp [ze,zd,CLe,zg,ha])⟩
      ·have hTj:(T.take j)=T:=List.take_of_length_le (by omega)
       have hany:=zlo (S:=T) (n:=n)
       unfold Yr at ht
       by_cases hin:n∈T
       ·rw[if_pos hin]at ht
        rw[decide_eq_true hin]at hany
        push_cast -dsimp [hlT,hj,hTj,hany]
        repeat refine an ?_
        exact ⟨k+1,⟨hk,by rw[hT1];exact k5⟩,by omega,wks [.inl 0] (by push_cast -dsimp [ze,zd,CLe,zg,hT1,ht])⟩
       ·rw[if_neg hin]at ht
        rw[decide_eq_false hin]at hany
        push_cast -dsimp [hlT,hj,hTj,hany,g2,hn]
        repeat refine an ?_
        exact ⟨k+1,⟨hk,by rw[hT1];exact k5⟩,by omega,wks [.inl 0] (by push_cast -dsimp [ze,zd,CLe,zg,hT1,ht,List.map_append])⟩
    ·have hkk:x.es.take k=x.es:=List.take_of_length_le (by omega)
     rw[hkk]at k4
     have hge:i+1<=(kL S x.es).length:=Nat.le_trans h (zix S x.es)
     push_cast -dsimp [hle,hk,hkk]
     repeat refine an ?_
     exact ⟨(i+1,kL S x.es),⟨hge,k4,k3⟩,by dsimp only;omega,wks [.inl 0]⟩
  ·push_cast -dsimp [hli,h]
   have hfin:QY f.xs (f.xs.length+1-i) i S=S:=by
    rw[show f.xs.length+1-i=(f.xs.length-i)+1 by omega,QY,List.getElem?_eq_none (by omega)]
   rw[hfin]at k3
   have hn:QC f↔S.length=f.xs.length:=by unfold QC;rw[←k3]
   exact dn (by push_cast -dsimp [ze,zd,CLe,zg,hn,hll])
end
end
section
open CA CB
open Go.RowKit
def YV (es:List zZ):Prop:=∀ i (h:i<es.length),may es[i].name=true/\1<=es[i].ino/\(0<i->Op.bytesLess es[i-1].name es[i].name=true)
instance (es:List zZ):Decidable (YV es):=by unfold YV;infer_instance
def YM (x:zp):Prop:=(x.kind=1∨x.kind=2∨x.kind=3)/\(x.kind≠2->x.es = []/\x.parent=0)/\(x.kind=2->x.data = []/\YV x.es)/\(x.kind=3->1<=x.data.length/\x.data.length<=4095/\∀ b∈x.data,b≠0)
instance (x:zp):Decidable (YM x):=by unfold YM;infer_instance
def YF (f:FsV):Prop:=∀ x∈f.xs,YM x
instance (f:FsV):Decidable (YF f):=by unfold YF;infer_instance
def JL (f:FsV):Int:=if Jv f then if YF f then if Yt f then if YO f then if QC f then if kZ f then 0 else 6 else 5 else 4 else 3 else 2 else 1
def okV (f:FsV):Prop:=VS f.xs/\JL f=0
instance (f:FsV):Decidable (okV f):=by unfold okV;infer_instance
theorem zfE (es:List zZ) (hl:es.length<=100000) (hn:∀ e∈es,e.name.length<=1000000):Fun Tryz.prog G0 112 [.sl 2 (zJ es)] (qO (decide (YV es))) 0:=by
 have hle:(zJ es).length=es.length:=List.length_map ..
 refine fon Tryz.func112 ?_;dsimp only[Tryz.f112]
 push_cast -dsimp
 refine loop (fun i:Nat=>⟨[(0,.sl 2 (zJ es)),(3,.sc (.int .i64 i))],[],0,0⟩) (fun i=>i<=es.length/\∀ j (h:j<es.length),j<i->may es[j].name=true/\1<=es[j].ino/\(0<j->Op.bytesLess es[j-1].name es[j].name=true)) (fun i=>es.length-i) 0 ⟨Nat.zero_le _,fun j h h'=>absurd h' (Nat.not_lt_zero _)⟩ ?_ ?_
 ·exact wk
 ·rintro i ⟨h1,h2⟩
  by_cases h:i<es.length
  ·have g1:=Ja es i h
   have hm:=Z1 es[i].name (hn _ (List.getElem_mem h))
   push_cast -dsimp [hle,h,g1]
   repeat refine an ?_
   cases c1:may es[i].name with
   | false =>
    have hno:¬YV es:=fun hr=>by have:=(hr i h).1;rw[c1]at this;cases this
    refine cl (hm) ?_;push_cast -dsimp [c1]
    exact dn (by push_cast -dsimp [ze,zd,CLe,zg,hno])
   | true =>
    by_cases c2:es[i].ino<1
    ·have hno:¬YV es:=fun hr=>by have:=(hr i h).2.1;omega
     refine cl (hm) ?_;push_cast -dsimp [c1,g1,c2]
     repeat refine an ?_
     exact dn (by push_cast -dsimp [ze,zd,CLe,zg,hno])
    ·have step:(0<i->Op.bytesLess es[i-1].name es[i].name=true)->∀ j (h:j<es.length),j<i+1->may es[j].name=true/\1<=es[j].ino/\(0<j->Op.bytesLess es[j-1].name es[j].name=true):=fun hb j hj hlt=>by
      rcases Nat.lt_or_ge j i with q | q
      ·exact h2 j hj q
      ·have:j=i:=by omega
       subst this
       exact ⟨c1,by omega,hb⟩
     by_cases c3:0<i
     ·have g2:=Ja es (i-1) (by omega)
      have e1:(i:Int)-1=((i-1:Nat):Int):=by omega
      cases c4:Op.bytesLess es[i-1].name es[i].name with
      | true =>
       refine cl (hm) ?_;push_cast -dsimp [c1,g1,c2]
       repeat refine an ?_
       push_cast -dsimp [c3,e1,g2,g1,c4]
       repeat refine an ?_
       exact ⟨i+1,⟨h,step fun _=>c4⟩,by omega,wk⟩
      | false =>
       have hno:¬YV es:=fun hr=>by have:=(hr i h).2.2 c3;rw[c4]at this;cases this
       refine cl (hm) ?_;push_cast -dsimp [c1,g1,c2]
       repeat refine an ?_
       push_cast -dsimp [c3,e1,g2,g1,c4]
       repeat refine an ?_
       exact dn (by push_cast -dsimp [ze,zd,CLe,zg,hno])
     ·refine cl (hm) ?_;push_cast -dsimp [c1,g1,c2]
      repeat refine an ?_
      push_cast -dsimp [c3]
      repeat refine an ?_
      exact ⟨i+1,⟨h,step fun h=>absurd h c3⟩,by omega,wk⟩
  ·have hr:YV es:=fun j hj=>h2 j hj (by omega)
   push_cast -dsimp [hle,h]
   exact dn (by push_cast -dsimp [ze,zd,CLe,zg,hr])
end
section
open CA CB
open Go.RowKit
theorem Hv (f:FsV) (hf:FsS f):Fun Tryz.prog G0 68 [.agg (fsC f)] (qO (decide (YF f))) 0:=by
 have hll:(zt f.xs).length=f.xs.length:=List.length_map ..
 have h40:=hf.len
 refine fon Tryz.func68 ?_;dsimp only[Tryz.f68]
 push_cast -dsimp
 refine loop (fun i:Nat=>⟨[(1,.ptr 0 0),(3,.sc (.int .i64 i))],[fsC f],0,0⟩) (fun i=>i<=f.xs.length/\∀ x∈f.xs.take i,YM x) (fun i=>f.xs.length-i) 0 ⟨Nat.zero_le _,fun x hx=>by simp at hx⟩ ?_ ?_
 ·exact wk
 ·rintro i ⟨h1,h2⟩
  by_cases h:i<f.xs.length
  case neg =>
   rw[List.take_of_length_le (by omega)]at h2
   have hn:YF f:=h2
   push_cast -dsimp [hll,h]
   exact dn (by push_cast -dsimp [ze,zd,CLe,zg,hn])
  have g1:=jb f.xs i h
  have hbad:¬YM f.xs[i]->¬YF f:=fun hn h'=>hn (h' _ (List.getElem_mem h))
  have hs:=hf.node _ (List.getElem_mem h)
  have step:YM f.xs[i]->∀ x∈f.xs.take (i+1),YM x:=fun hq=>qo h h2 hq
  push_cast -dsimp [hll,h,g1]
  repeat refine an ?_
  generalize f.xs[i]=x at g1 hbad hs step
  have hle:(zJ x.es).length=x.es.length:=List.length_map ..
  have hent:x.es.length<=10000:=hs.1
  by_cases k2:x.kind=2
  ·by_cases d0:x.data = []
   ·have hr:=zfE x.es (by omega) fun e he=>by have:=hs.2.2 e he;omega
    cases c1:decide (YV x.es) with
    | false =>
     have hn:=hbad fun hq=>of_decide_eq_false c1 (hq.2.2.1 k2).2
     push_cast -dsimp [k2,d0]
     refine cl (hr) ?_;push_cast -dsimp [c1]
     exact dn (by push_cast -dsimp [ze,zd,CLe,zg,hn])
    | true =>
     have hq:YM x:=⟨.inr (.inl k2),fun h=>absurd k2 h,fun _=>⟨d0,of_decide_eq_true c1⟩,fun h=>by omega⟩
     push_cast -dsimp [k2,d0]
     refine cl (hr) ?_;push_cast -dsimp [c1,k2]
     refine loop (fun j:Nat=>⟨[(1,.ptr 0 0),(3,.sc (.int .i64 i)),(4,.ptr 1 0),(5,.sc (.int .i64 j))],[fsC f,J4 x],0,0⟩) (fun j=>j=0) (fun j=>0) 0 rfl ?_ ?_
     ·exact wk (by push_cast -dsimp [ze,zd,CLe,zg,k2,d0]) (by push_cast -dsimp [ze,zd,CLe,zg,k2,d0])
     ·rintro j rfl
      push_cast -dsimp [d0]
      repeat refine an ?_
      exact ⟨i+1,⟨h,step hq⟩,by omega,wk⟩
   ·have hn:=hbad fun hq=>d0 (hq.2.2.1 k2).1
    push_cast -dsimp [k2,d0]
    exact dn (by push_cast -dsimp [ze,zd,CLe,zg,hn])
  by_cases e0:x.es = []
  case neg =>
   have hn:=hbad fun hq=>e0 (hq.2.1 k2).1
   have hpos:0<(x.es.length:Int):=by have:=List.length_pos_iff.2 e0;omega
   by_cases k1:x.kind=1
   ·push_cast -dsimp [k1,hle,hpos]
    exact dn (by push_cast -dsimp [ze,zd,CLe,zg,hn])
   ·by_cases k3:x.kind=3
    ·push_cast -dsimp [k1,k2,k3,hle,hpos]
     exact dn (by push_cast -dsimp [ze,zd,CLe,zg,hn])
    ·have hn:=hbad fun hq=>by rcases hq.1 with q | q | q<;>contradiction
     push_cast -dsimp [k1,k2,k3]
     exact dn (by push_cast -dsimp [ze,zd,CLe,zg,hn])
  have hl0:x.es.length=0:=by rw[e0];rfl
  by_cases p0:x.parent=0
  case neg =>
   have hn:=hbad fun hq=>p0 (hq.2.1 k2).2
   by_cases k1:x.kind=1
   ·push_cast -dsimp [k1,hle,hl0,p0]
    exact dn (by push_cast -dsimp [ze,zd,CLe,zg,hn])
   ·by_cases k3:x.kind=3
    ·push_cast -dsimp [k1,k2,k3,hle,hl0,p0]
     exact dn (by push_cast -dsimp [ze,zd,CLe,zg,hn])
    ·have hn:=hbad fun hq=>by rcases hq.1 with q | q | q<;>contradiction
     push_cast -dsimp [k1,k2,k3]
     exact dn (by push_cast -dsimp [ze,zd,CLe,zg,hn])
  by_cases k1:x.kind=1
  ·have hq:YM x:=⟨.inl k1,fun _=>⟨e0,p0⟩,fun h=>absurd h k2,fun h=>by omega⟩
   push_cast -dsimp [k1,hle,hl0,p0]
   refine loop (fun j:Nat=>⟨[(1,.ptr 0 0),(3,.sc (.int .i64 i)),(4,.ptr 1 0),(5,.sc (.int .i64 j))],[fsC f,J4 x],0,0⟩) (fun j=>j=0) (fun j=>0) 0 rfl ?_ ?_
   ·exact wk (by push_cast -dsimp [ze,zd,CLe,zg,k1,p0]) (by push_cast -dsimp [ze,zd,CLe,zg,k1,p0])
   ·rintro j rfl
    by_cases hd:(0:Int)<x.data.length
    ·push_cast -dsimp [hd,k1]
     repeat refine an ?_
     exact ⟨i+1,⟨h,step hq⟩,by omega,wk⟩
    ·push_cast -dsimp [hd,k1]
     repeat refine an ?_
     exact ⟨i+1,⟨h,step hq⟩,by omega,wk⟩
  by_cases k3:x.kind=3
  case neg =>
   have hn:=hbad fun hq=>by rcases hq.1 with q | q | q<;>contradiction
   push_cast -dsimp [k1,k2,k3]
   exact dn (by push_cast -dsimp [ze,zd,CLe,zg,hn])
  by_cases l1:(x.data.length:Int)<1
  ·have hn:=hbad fun hq=>by have:=(hq.2.2.2 k3).1;omega
   push_cast -dsimp [k1,k2,k3,hle,hl0,p0,l1]
   exact dn (by push_cast -dsimp [ze,zd,CLe,zg,hn])
  by_cases l2:4095<(x.data.length:Int)
  ·have hn:=hbad fun hq=>by have:=(hq.2.2.2 k3).2.1;omega
   push_cast -dsimp [k1,k2,k3,hle,hl0,p0,l1,l2]
   exact dn (by push_cast -dsimp [ze,zd,CLe,zg,hn])
  push_cast -dsimp [k1,k2,k3,hle,hl0,p0,l1,l2]
  refine loop (fun j:Nat=>⟨[(1,.ptr 0 0),(3,.sc (.int .i64 i)),(4,.ptr 1 0),(5,.sc (.int .i64 j))],[fsC f,J4 x],0,0⟩) (fun j=>j<=x.data.length/\∀ b∈x.data.take j,b≠0) (fun j=>x.data.length-j) 0 ⟨Nat.zero_le _,fun b hb=>by simp at hb⟩ ?_ ?_
  ·exact wk (by push_cast -dsimp [ze,zd,CLe,zg,k3,p0]) (by push_cast -dsimp [ze,zd,CLe,zg,k3,p0])
  ·rintro j ⟨j1,j2⟩
   by_cases hj:j<x.data.length
   ·have hb:x.data[j]?=some x.data[j]:=List.getElem?_eq_getElem hj
    by_cases z:(x.data[j].toNat:Int)=0
    ·have hn:=hbad fun hq=>(hq.2.2.2 k3).2.2 _ (List.getElem_mem hj) (UInt8.toNat_inj.1 (by simpa using z))
     push_cast -dsimp [hj,k3,hb,z]
     repeat refine an ?_
     exact dn (by push_cast -dsimp [ze,zd,CLe,zg,hn])
    ·push_cast -dsimp [hj,k3,hb,z]
     repeat refine an ?_
     exact ⟨j+1,⟨hj,qo hj j2 fun hz=>z (by rw[hz];rfl)⟩,by omega,wk⟩
   ·rw[List.take_of_length_le (by omega)]at j2
    have hq:YM x:=⟨.inr (.inr k3),fun _=>⟨e0,p0⟩,fun h=>absurd h k2,fun _=>⟨by omega,by omega,j2⟩⟩
    push_cast -dsimp [hj,k3]
    repeat refine an ?_
    exact ⟨i+1,⟨h,step hq⟩,by omega,wk⟩
theorem zfR (f:FsV) (hf:FsS f):Fun Tryz.prog G0 37 [.agg (fsC f)] (.sc (.int .i64 (JL f))) 0:=by
 have h40:=hf.len
 have hb:qd f.xs<=100000000:=by have:=hf.bytes;omega
 refine fon Tryz.func37 ?_;dsimp only[Tryz.f37]
 push_cast -dsimp
 by_cases c1:Jv f
 case neg =>
  refine cl (NJ f (by omega)) ?_;push_cast -dsimp [decide_eq_false c1]
  exact dn (by push_cast -dsimp [ze,zd,CLe,zg,JL,c1])
 refine cl (NJ f (by omega)) ?_;push_cast -dsimp [decide_eq_true c1]
 by_cases c2:YF f
 case neg =>
  refine cl (Hv f hf) ?_;push_cast -dsimp [decide_eq_false c2]
  exact dn (by push_cast -dsimp [ze,zd,CLe,zg,JL,c1,c2])
 refine cl (Hv f hf) ?_;push_cast -dsimp [decide_eq_true c2]
 by_cases c3:Yt f
 case neg =>
  refine cl (MT f hf) ?_;push_cast -dsimp [decide_eq_false c3]
  exact dn (by push_cast -dsimp [ze,zd,CLe,zg,JL,c1,c2,c3])
 refine cl (MT f hf) ?_;push_cast -dsimp [decide_eq_true c3]
 by_cases c4:YO f
 case neg =>
  refine cl (Hf f hf) ?_;push_cast -dsimp [decide_eq_false c4]
  exact dn (by push_cast -dsimp [ze,zd,CLe,zg,JL,c1,c2,c3,c4])
 refine cl (Hf f hf) ?_;push_cast -dsimp [decide_eq_true c4]
 by_cases c5:QC f
 case neg =>
  refine cl (Nw f hf c3 c1.2.2.2.2.2.2.2.1) ?_;push_cast -dsimp [decide_eq_false c5]
  exact dn (by push_cast -dsimp [ze,zd,CLe,zg,JL,c1,c2,c3,c4,c5])
 refine cl (Nw f hf c3 c1.2.2.2.2.2.2.2.1) ?_;push_cast -dsimp [decide_eq_true c5]
 by_cases c6:kZ f
 case neg =>
  refine cl (ur f hf hb) ?_;push_cast -dsimp [decide_eq_false c6]
  exact dn (by push_cast -dsimp [ze,zd,CLe,zg,JL,c1,c2,c3,c4,c5,c6])
 refine cl (ur f hf hb) ?_;push_cast -dsimp [decide_eq_true c6]
 exact dn (by push_cast -dsimp [ze,zd,CLe,zg,JL,c1,c2,c3,c4,c5,c6])
end
section
open CA CB
open Go.RowKit
def jH (x:zp) (k:zP):Bool:=decide (k.ino=x.ino)&&!k.content
def qC (w:qg) (x:zp):Prop:=zn x.ino w.fs.xs=false/\1<=x.ino/\x.ino<w.fs.next/\x.links=0/\x.parent=0/\x.es = []/\(x.kind=1∨x.kind=2∨x.kind=3)/\(x.kind=2->x.data = [])/\(x.kind=3->1<=x.data.length/\x.data.length<=4095/\∀ b∈x.data,b≠0)/\w.kept.any (jH x)=true
instance (w:qg) (x:zp):Decidable (qC w x):=by unfold qC;infer_instance
theorem zpV {α:Type} {P:α->Bool} {l:List α} {k:Nat} (h:k<l.length):(l.take (k+1)).any P=((l.take k).any P||P l[k]):=by
 rw[List.take_add_one,List.getElem?_eq_getElem h,List.any_append];simp
theorem za1 (w:qg) (x:zp) (hl:w.fs.xs.length<=100000) (hk:w.kept.length<=100000) (he:x.es.length<=100000) (hd:x.data.length<=100000):Fun Tryz.prog G0 51 [jB w,.agg (J4 x)] (qO (decide (qC w x))) 0:=by
 have hg:=qG (G:=G0) w.fs x.ino hl
 have hkl:(zH w.kept).length=w.kept.length:=List.length_map ..
 have hle:(zJ x.es).length=x.es.length:=List.length_map ..
 by_cases c1:zn x.ino w.fs.xs=true
 ·have hn:¬qC w x:=fun h=>by have:=h.1;rw[c1]at this;cases this
  rw[c1]at hg
  refine fon Tryz.func51 ?_;dsimp only[Tryz.f51]
  push_cast -dsimp
  refine cl (hg) ?_;push_cast -dsimp
  exact dn (by push_cast -dsimp [ze,zd,CLe,zg,hn])
 have c1:=Bool.eq_false_iff.2 c1
 rw[c1]at hg
 by_cases c2:x.ino<1
 case pos =>
  have hn:¬qC w x:=fun h=>by have:=h.2.1;omega
  refine fon Tryz.func51 ?_;dsimp only[Tryz.f51]
  push_cast -dsimp
  refine cl (hg) ?_;push_cast -dsimp [hle,c2]
  exact dn (by push_cast -dsimp [ze,zd,CLe,zg,hn])
 by_cases c3:w.fs.next<=x.ino
 case pos =>
  have hn:¬qC w x:=fun h=>by have:=h.2.2.1;omega
  refine fon Tryz.func51 ?_;dsimp only[Tryz.f51]
  push_cast -dsimp
  refine cl (hg) ?_;push_cast -dsimp [hle,c2,c3]
  exact dn (by push_cast -dsimp [ze,zd,CLe,zg,hn])
 by_cases c4:x.links=0
 case neg =>
  have hn:¬qC w x:=fun h=>c4 h.2.2.2.1
  refine fon Tryz.func51 ?_;dsimp only[Tryz.f51]
  push_cast -dsimp
  refine cl (hg) ?_;push_cast -dsimp [hle,c2,c3,c4]
  exact dn (by push_cast -dsimp [ze,zd,CLe,zg,hn])
 by_cases c5:x.parent=0
 case neg =>
  have hn:¬qC w x:=fun h=>c5 h.2.2.2.2.1
  refine fon Tryz.func51 ?_;dsimp only[Tryz.f51]
  push_cast -dsimp
  refine cl (hg) ?_;push_cast -dsimp [hle,c2,c3,c4,c5]
  exact dn (by push_cast -dsimp [ze,zd,CLe,zg,hn])
 by_cases c6:(x.es.length:Int)=0
 case neg =>
  have hn:¬qC w x:=fun h=>c6 (by rw[h.2.2.2.2.2.1];rfl)
  refine fon Tryz.func51 ?_;dsimp only[Tryz.f51]
  push_cast -dsimp
  refine cl (hg) ?_;push_cast -dsimp [hle,c2,c3,c4,c5,c6]
  exact dn (by push_cast -dsimp [ze,zd,CLe,zg,hn])
 by_cases c7:x.kind<1
 case pos =>
  have hn:¬qC w x:=fun h=>by have:=h.2.2.2.2.2.2.1;omega
  refine fon Tryz.func51 ?_;dsimp only[Tryz.f51]
  push_cast -dsimp
  refine cl (hg) ?_;push_cast -dsimp [hle,c2,c3,c4,c5,c6,c7]
  exact dn (by push_cast -dsimp [ze,zd,CLe,zg,hn])
 by_cases c8:3<x.kind
 case pos =>
  have hn:¬qC w x:=fun h=>by have:=h.2.2.2.2.2.2.1;omega
  refine fon Tryz.func51 ?_;dsimp only[Tryz.f51]
  push_cast -dsimp
  refine cl (hg) ?_;push_cast -dsimp [hle,c2,c3,c4,c5,c6,c7,c8]
  exact dn (by push_cast -dsimp [ze,zd,CLe,zg,hn])
 have hes:x.es = []:=List.eq_nil_of_length_eq_zero (by omega)
 have hkd:x.kind=1∨x.kind=2∨x.kind=3:=by omega
 have key:(x.kind=2->x.data = [])->(x.kind=3->1<=x.data.length/\x.data.length<=4095/\∀ b∈x.data,b≠0)->decide (qC w x)=w.kept.any (jH x):=fun q1 q2=>by
  cases hn:w.kept.any (jH x) with
  | true=>exact decide_eq_true ⟨c1,by omega,by omega,c4,c5,hes,hkd,q1,q2,hn⟩
  | false=>exact decide_eq_false fun h=>by have:=h.2.2.2.2.2.2.2.2.2;rw[hn]at this;cases this
 by_cases k2:x.kind=2
 ·by_cases d0:x.data = []
  ·have hdl:((0:Int)<x.data.length)=False:=eq_false (by rw[d0];simp)
   refine fon Tryz.func51 ?_;dsimp only[Tryz.f51]
   push_cast -dsimp
   refine cl (hg) ?_;push_cast -dsimp [hle,c2,c3,c4,c5,c6,c7,c8,k2,d0,hdl]
   refine loop (fun j:Nat=>⟨[(2,.ptr 0 0),(3,.ptr 1 0),(7,.sc (.int .i64 j))],[kI w,J4 x],0,0⟩) (fun j=>j=0) (fun j=>0) 0 rfl ?_ ?_
   ·exact wk (h5:=by push_cast -dsimp [ze,zd,CLe,zg,k2,d0,c4,c5])
   ·rintro j rfl
    push_cast -dsimp [hdl,d0]
    refine loop (fun i:Nat=>⟨[(2,.ptr 0 0),(3,.ptr 1 0),(8,.sc (.bool ((w.kept.take i).any (jH x)))),(9,.sc (.int .i64 i))],[kI w,J4 x],0,0⟩) (fun i=>i<=w.kept.length) (fun i=>w.kept.length-i) 0 (Nat.zero_le _) ?_ ?_
    ·exact wk (by push_cast -dsimp [ze,zd,CLe,zg,List.take_zero,List.any_nil])
    ·intro i hi
     by_cases h:i<w.kept.length
     ·have g:=jr w.kept i h
      have ha:=zpV (P:=jH x) h
      have hp:jH x w.kept[i]=(decide (w.kept[i].ino=x.ino)&&!w.kept[i].content):=rfl
      by_cases hn:((w.kept.take i).any (jH x))=true
      ·rw[hn,Bool.true_or]at ha
       push_cast -dsimp [hkl,h,hn]
       repeat refine an ?_
       exact ⟨i+1,h,by omega,wk (by push_cast -dsimp [ze,zd,CLe,zg,ha])⟩
      ·have hn:=Bool.eq_false_iff.2 hn
       rw[hn,Bool.false_or,hp]at ha
       by_cases he:w.kept[i].ino=x.ino
       ·rw[decide_eq_true he,Bool.true_and]at ha
        push_cast -dsimp [hkl,h,hn,g,he]
        repeat refine an ?_
        exact ⟨i+1,h,by omega,wk (by push_cast -dsimp [ze,zd,CLe,zg,ha])⟩
       ·rw[decide_eq_false he,Bool.false_and]at ha
        push_cast -dsimp [hkl,h,hn,g,he]
        repeat refine an ?_
        exact ⟨i+1,h,by omega,wk (by push_cast -dsimp [ze,zd,CLe,zg,ha])⟩
     ·rw[List.take_of_length_le (by omega)]
      have hd:decide (qC w x)=w.kept.any (jH x):=key (fun _=>d0) (fun h=>by omega)
      push_cast -dsimp [hkl,h]
      exact dn (by push_cast -dsimp [ze,zd,CLe,zg,hd])
  ·have hn:¬qC w x:=fun h=>d0 (h.2.2.2.2.2.2.2.1 k2)
   refine fon Tryz.func51 ?_;dsimp only[Tryz.f51]
   push_cast -dsimp
   refine cl (hg) ?_;push_cast -dsimp [hle,c2,c3,c4,c5,c6,c7,c8,k2,d0]
   exact dn (by push_cast -dsimp [ze,zd,CLe,zg,hn])
 by_cases k3:x.kind=3
 ·by_cases l1:(x.data.length:Int)<1
  ·have hn:¬qC w x:=fun h=>by have:=(h.2.2.2.2.2.2.2.2.1 k3).1;omega
   refine fon Tryz.func51 ?_;dsimp only[Tryz.f51]
   push_cast -dsimp
   refine cl (hg) ?_;push_cast -dsimp [hle,c2,c3,c4,c5,c6,c7,c8,k2,k3,l1]
   exact dn (by push_cast -dsimp [ze,zd,CLe,zg,hn])
  by_cases l2:4095<(x.data.length:Int)
  ·have hn:¬qC w x:=fun h=>by have:=(h.2.2.2.2.2.2.2.2.1 k3).2.1;omega
   refine fon Tryz.func51 ?_;dsimp only[Tryz.f51]
   push_cast -dsimp
   refine cl (hg) ?_;push_cast -dsimp [hle,c2,c3,c4,c5,c6,c7,c8,k2,k3,l1,l2]
   exact dn (by push_cast -dsimp [ze,zd,CLe,zg,hn])
  refine fon Tryz.func51 ?_;dsimp only[Tryz.f51]
  push_cast -dsimp
  refine cl (hg) ?_;push_cast -dsimp [hle,c2,c3,c4,c5,c6,c7,c8,k2,k3,l1,l2]
  refine loop (fun j:Nat=>⟨[(2,.ptr 0 0),(3,.ptr 1 0),(7,.sc (.int .i64 j))],[kI w,J4 x],0,0⟩) (fun j=>j<=x.data.length/\∀ b∈x.data.take j,b≠0) (fun j=>x.data.length-j) 0 ⟨Nat.zero_le _,fun b hb=>by simp at hb⟩ ?_ ?_
  ·exact wk (h5:=by push_cast -dsimp [ze,zd,CLe,zg,k3,c4,c5])
  ·rintro j ⟨j1,j2⟩
   by_cases hj:j<x.data.length
   ·have hb:x.data[j]?=some x.data[j]:=List.getElem?_eq_getElem hj
    by_cases z:(x.data[j].toNat:Int)=0
    ·have hn:¬qC w x:=fun h=>(h.2.2.2.2.2.2.2.2.1 k3).2.2 _ (List.getElem_mem hj) (UInt8.toNat_inj.1 (by simpa using z))
     push_cast -dsimp [hj,k3,hb,z]
     repeat refine an ?_
     exact dn (by push_cast -dsimp [ze,zd,CLe,zg,hn])
    ·push_cast -dsimp [hj,k3,hb,z]
     repeat refine an ?_
     exact ⟨j+1,⟨hj,qo hj j2 fun hz=>z (by rw[hz];rfl)⟩,by omega,wk⟩
   ·rw[List.take_of_length_le (by omega)]at j2
    push_cast -dsimp [hj,k3]
    refine loop (fun i:Nat=>⟨[(2,.ptr 0 0),(3,.ptr 1 0),(8,.sc (.bool ((w.kept.take i).any (jH x)))),(9,.sc (.int .i64 i))],[kI w,J4 x],0,0⟩) (fun i=>i<=w.kept.length) (fun i=>w.kept.length-i) 0 (Nat.zero_le _) ?_ ?_
    ·exact wk (by push_cast -dsimp [ze,zd,CLe,zg,List.take_zero,List.any_nil])
    ·intro i hi
     by_cases h:i<w.kept.length
     ·have g:=jr w.kept i h
      have ha:=zpV (P:=jH x) h
      have hp:jH x w.kept[i]=(decide (w.kept[i].ino=x.ino)&&!w.kept[i].content):=rfl
      by_cases hn:((w.kept.take i).any (jH x))=true
      ·rw[hn,Bool.true_or]at ha
       push_cast -dsimp [hkl,h,hn]
       repeat refine an ?_
       exact ⟨i+1,h,by omega,wk (by push_cast -dsimp [ze,zd,CLe,zg,ha])⟩
      ·have hn:=Bool.eq_false_iff.2 hn
       rw[hn,Bool.false_or,hp]at ha
       by_cases he:w.kept[i].ino=x.ino
       ·rw[decide_eq_true he,Bool.true_and]at ha
        push_cast -dsimp [hkl,h,hn,g,he]
        repeat refine an ?_
        exact ⟨i+1,h,by omega,wk (by push_cast -dsimp [ze,zd,CLe,zg,ha])⟩
       ·rw[decide_eq_false he,Bool.false_and]at ha
        push_cast -dsimp [hkl,h,hn,g,he]
        repeat refine an ?_
        exact ⟨i+1,h,by omega,wk (by push_cast -dsimp [ze,zd,CLe,zg,ha])⟩
     ·rw[List.take_of_length_le (by omega)]
      have hd:decide (qC w x)=w.kept.any (jH x):=key (fun h=>absurd h k2) (fun _=>⟨by omega,by omega,j2⟩)
      push_cast -dsimp [hkl,h]
      exact dn (by push_cast -dsimp [ze,zd,CLe,zg,hd])
 ·have k1:x.kind=1:=by omega
  refine fon Tryz.func51 ?_;dsimp only[Tryz.f51]
  push_cast -dsimp
  refine cl (hg) ?_;push_cast -dsimp [hle,c2,c3,c4,c5,c6,c7,c8,k2,k3]
  refine loop (fun j:Nat=>⟨[(2,.ptr 0 0),(3,.ptr 1 0),(7,.sc (.int .i64 j))],[kI w,J4 x],0,0⟩) (fun j=>j=0) (fun j=>0) 0 rfl ?_ ?_
  ·exact wk (h5:=by push_cast -dsimp [ze,zd,CLe,zg,c4,c5])
  ·rintro j rfl
   by_cases hd0:(0:Int)<x.data.length
   ·push_cast -dsimp [hd0,k3]
    refine loop (fun i:Nat=>⟨[(2,.ptr 0 0),(3,.ptr 1 0),(8,.sc (.bool ((w.kept.take i).any (jH x)))),(9,.sc (.int .i64 i))],[kI w,J4 x],0,0⟩) (fun i=>i<=w.kept.length) (fun i=>w.kept.length-i) 0 (Nat.zero_le _) ?_ ?_
    ·exact wk (by push_cast -dsimp [ze,zd,CLe,zg,List.take_zero,List.any_nil])
    ·intro i hi
     by_cases h:i<w.kept.length
     ·have g:=jr w.kept i h
      have ha:=zpV (P:=jH x) h
      have hp:jH x w.kept[i]=(decide (w.kept[i].ino=x.ino)&&!w.kept[i].content):=rfl
      by_cases hn:((w.kept.take i).any (jH x))=true
      ·rw[hn,Bool.true_or]at ha
       push_cast -dsimp [hkl,h,hn]
       repeat refine an ?_
       exact ⟨i+1,h,by omega,wk (by push_cast -dsimp [ze,zd,CLe,zg,ha])⟩
      ·have hn:=Bool.eq_false_iff.2 hn
       rw[hn,Bool.false_or,hp]at ha
       by_cases he:w.kept[i].ino=x.ino
       ·rw[decide_eq_true he,Bool.true_and]at ha
        push_cast -dsimp [hkl,h,hn,g,he]
        repeat refine an ?_
        exact ⟨i+1,h,by omega,wk (by push_cast -dsimp [ze,zd,CLe,zg,ha])⟩
       ·rw[decide_eq_false he,Bool.false_and]at ha
        push_cast -dsimp [hkl,h,hn,g,he]
        repeat refine an ?_
        exact ⟨i+1,h,by omega,wk (by push_cast -dsimp [ze,zd,CLe,zg,ha])⟩
     ·rw[List.take_of_length_le (by omega)]
      have hd:decide (qC w x)=w.kept.any (jH x):=key (fun h=>absurd h k2) (fun h=>absurd h k3)
      push_cast -dsimp [hkl,h]
      exact dn (by push_cast -dsimp [ze,zd,CLe,zg,hd])
   ·push_cast -dsimp [hd0,k3]
    refine loop (fun i:Nat=>⟨[(2,.ptr 0 0),(3,.ptr 1 0),(8,.sc (.bool ((w.kept.take i).any (jH x)))),(9,.sc (.int .i64 i))],[kI w,J4 x],0,0⟩) (fun i=>i<=w.kept.length) (fun i=>w.kept.length-i) 0 (Nat.zero_le _) ?_ ?_
    ·exact wk (by push_cast -dsimp [ze,zd,CLe,zg,List.take_zero,List.any_nil])
    ·intro i hi
     by_cases h:i<w.kept.length
     ·have g:=jr w.kept i h
      have ha:=zpV (P:=jH x) h
      have hp:jH x w.kept[i]=(decide (w.kept[i].ino=x.ino)&&!w.kept[i].content):=rfl
      by_cases hn:((w.kept.take i).any (jH x))=true
      ·rw[hn,Bool.true_or]at ha
       push_cast -dsimp [hkl,h,hn]
       repeat refine an ?_
       exact ⟨i+1,h,by omega,wk (by push_cast -dsimp [ze,zd,CLe,zg,ha])⟩
      ·have hn:=Bool.eq_false_iff.2 hn
       rw[hn,Bool.false_or,hp]at ha
       by_cases he:w.kept[i].ino=x.ino
       ·rw[decide_eq_true he,Bool.true_and]at ha
        push_cast -dsimp [hkl,h,hn,g,he]
        repeat refine an ?_
        exact ⟨i+1,h,by omega,wk (by push_cast -dsimp [ze,zd,CLe,zg,ha])⟩
       ·rw[decide_eq_false he,Bool.false_and]at ha
        push_cast -dsimp [hkl,h,hn,g,he]
        repeat refine an ?_
        exact ⟨i+1,h,by omega,wk (by push_cast -dsimp [ze,zd,CLe,zg,ha])⟩
     ·rw[List.take_of_length_le (by omega)]
      have hd:decide (qC w x)=w.kept.any (jH x):=key (fun h=>absurd h k2) (fun h=>absurd h k3)
      push_cast -dsimp [hkl,h]
      exact dn (by push_cast -dsimp [ze,zd,CLe,zg,hd])
end
section
open CA CB
open Go.RowKit
def zgE (w:qg):Prop:=(∀ k∈w.kept,k.data.length<=5000)/\VS w.fs.xs/\VS w.pool/\w.kept.length<=40
instance (w:qg):Decidable (zgE w):=by unfold zgE;infer_instance
def Xx (w:qg) (k:zP):Prop:=k.slot<=1073741824/\(zn k.ino w.fs.xs=true∨zn k.ino w.pool=true)/\(k.content=true->(if zn k.ino w.pool=true then zh k.ino w.pool else zh k.ino w.fs.xs).kind=1)/\(k.content=false->k.data = [])
instance (w:qg) (k:zP):Decidable (Xx w k):=by unfold Xx;infer_instance
def X8 (ks:List zP):Prop:=qI jP zP.slot ks/\∀ k∈ks,1<=k.slot
instance (ks:List zP):Decidable (X8 ks):=by unfold X8 qI;infer_instance
def YX (w:qg):Prop:=JL w.fs=0/\z7 w.pool/\(∀ x∈w.pool,qC w x)/\X8 w.kept/\∀ k∈w.kept,Xx w k
instance (w:qg):Decidable (YX w):=by unfold YX;infer_instance
def okW (w:qg):Prop:=zgE w/\YX w
instance (w:qg):Decidable (okW w):=by unfold okW;infer_instance
theorem UO {ks:List zP} (h:X8 ks):0<=jy ks/\∀ k∈ks,k.slot<=jy ks:=by
 rcases List.eq_nil_or_concat ks with rfl | ⟨l,b,rfl⟩
 ·exact ⟨Int.le_refl 0,fun k hk=>by cases hk⟩
 ·rw[List.concat_eq_append]at h ⊢
  have hl:jy (l++[b])=b.slot:=by unfold jy;rw[List.getLast?_append];rfl
  rw[hl]
  have hb:=h.2 b (by simp)
  refine ⟨by omega,fun k hk=>?_⟩
  rcases List.mem_append.1 hk with hk | hk
  ·have:=(List.pairwise_append.1 h.1).2.2 k hk b (by simp)
   have:k.slot<b.slot:=of_decide_eq_true this
   omega
  ·rw[List.mem_singleton.1 hk];exact Int.le_refl _
theorem Uy {ks:List zP} {k:zP}:X8 (ks++[k])↔X8 ks/\jy ks<k.slot:=by
 constructor
 ·rintro ⟨h1,h2⟩
  have h0:X8 ks:=⟨(List.pairwise_append.1 h1).1,fun x hx=>h2 x (List.mem_append_left _ hx)⟩
  refine ⟨h0,?_⟩
  rcases List.eq_nil_or_concat ks with rfl | ⟨l,b,rfl⟩
  ·have:=h2 k (by simp)
   show (0:Int)<k.slot
   omega
  ·rw[List.concat_eq_append]at h1 ⊢
   have hl:jy (l++[b])=b.slot:=by unfold jy;rw[List.getLast?_append];rfl
   rw[hl]
   exact of_decide_eq_true ((List.pairwise_append.1 h1).2.2 b (by simp) k (by simp))
 ·rintro ⟨h,hk⟩
  obtain ⟨q1,q2⟩:=UO h
  refine ⟨List.pairwise_append.2 ⟨h.1,List.pairwise_singleton _ _,fun a ha b hb=>?_⟩,fun x hx=>?_⟩
  ·rw[List.mem_singleton.1 hb]
   have:=q2 a ha
   exact decide_eq_true (show a.slot<k.slot by omega)
  ·rcases List.mem_append.1 hx with hx | hx
   ·exact h.2 x hx
   ·rw[List.mem_singleton.1 hx];omega
theorem HM (w:qg):Fun Tryz.prog G0 65 [jB w] (qO (decide (zgE w))) 0:=by
 have hkl:(zH w.kept).length=w.kept.length:=List.length_map ..
 have hf:=zae (G:=G0) w.fs
 have hq:=Zh (G:=G0) w
 have hp:=zae (G:=G0) ⟨0,0,0,w.pool⟩
 simp only at hp
 have fin:(∀ k∈w.kept.take 100,k.data.length<=5000)->(zgE w↔VS w.fs.xs/\VS w.pool/\w.kept.length<=40):=fun h=>by
  refine ⟨fun q=>q.2,fun q=>⟨?_,q⟩⟩
  rw[List.take_of_length_le (by have:=q.2.2;omega)]at h
  exact h
 refine fon Tryz.func65 ?_;dsimp only[Tryz.f65]
 push_cast -dsimp
 refine loop (fun i:Nat=>⟨[(1,.ptr 0 0),(3,.sc (.int .i64 i))],[kI w],0,0⟩) (fun i=>i<=w.kept.length/\i<=100/\∀ k∈w.kept.take i,k.data.length<=5000) (fun i=>w.kept.length-i) 0 ⟨Nat.zero_le _,Nat.zero_le _,fun x hx=>by simp at hx⟩ ?_ ?_
 ·exact wk
 ·rintro i ⟨h1,h2,h3⟩
  have last:(∀ k∈w.kept.take 100,k.data.length<=5000)->decide (zgE w)=(decide (VS w.fs.xs)&&(decide (VS w.pool)&&decide (w.kept.length<=40))):=fun h=>by
   have:=fin h
   by_cases a:VS w.fs.xs<;>by_cases b:VS w.pool<;>by_cases c:w.kept.length<=40<;>simp[this,a,b,c]
  by_cases h:i<w.kept.length
  ·by_cases h100:i<100
   ·have g:=jr w.kept i h
    have h100':((i:Int)<100)=True:=eq_true (by omega)
    by_cases hd:5000<(w.kept[i].data.length:Int)
    ·have hn:¬zgE w:=fun q=>by have:=q.1 _ (List.getElem_mem h);omega
     push_cast -dsimp [hkl,h,h100',g,hd]
     repeat refine an ?_
     exact dn (by push_cast -dsimp [ze,zd,CLe,zg,hn])
    ·push_cast -dsimp [hkl,h,h100',g,hd]
     repeat refine an ?_
     exact ⟨i+1,⟨h,h100,qo h h3 (by omega)⟩,by omega,wk⟩
   ·have h100':((i:Int)<100)=False:=eq_false (by omega)
    have e:i=100:=by omega
    have hl:=last (by rw[←e];exact h3)
    have h40:((w.kept.length:Int)<=40)=False:=eq_false (by omega)
    rw[decide_eq_false (show ¬w.kept.length<=40 by omega)]at hl
    rw[hl]
    by_cases a:VS w.fs.xs
    ·by_cases b:VS w.pool
     ·push_cast -dsimp [hkl,h,h100']
      refine cl (hf) ?_;push_cast -dsimp [decide_eq_true a]
      refine cl (hq) ?_;push_cast -dsimp
      refine cl (hp) ?_;push_cast -dsimp [decide_eq_true b,hkl,h40]
      exact dn (by push_cast -dsimp [ze,zd,CLe,zg,a,b,Bool.false_and])
     ·push_cast -dsimp [hkl,h,h100']
      refine cl (hf) ?_;push_cast -dsimp [decide_eq_true a]
      refine cl (hq) ?_;push_cast -dsimp
      refine cl (hp) ?_;push_cast -dsimp [decide_eq_false b]
      exact dn (by push_cast -dsimp [ze,zd,CLe,zg,a,b,Bool.false_and])
    ·push_cast -dsimp [hkl,h,h100']
     refine cl (hf) ?_;push_cast -dsimp [decide_eq_false a]
     exact dn (by push_cast -dsimp [ze,zd,CLe,zg,a,Bool.false_and])
  ·rw[List.take_of_length_le (by omega)]at h3
   have hl:=last fun k hk=>h3 k (List.mem_of_mem_take hk)
   rw[hl]
   by_cases a:VS w.fs.xs
   ·by_cases b:VS w.pool
    ·by_cases c:w.kept.length<=40
     ·have h40:((w.kept.length:Int)<=40)=True:=eq_true (by omega)
      push_cast -dsimp [hkl,h]
      refine cl (hf) ?_;push_cast -dsimp [decide_eq_true a]
      refine cl (hq) ?_;push_cast -dsimp
      refine cl (hp) ?_;push_cast -dsimp [decide_eq_true b,hkl,h40]
      exact dn (by push_cast -dsimp [ze,zd,CLe,zg,a,b,c,Bool.false_and])
     ·have h40:((w.kept.length:Int)<=40)=False:=eq_false (by omega)
      push_cast -dsimp [hkl,h]
      refine cl (hf) ?_;push_cast -dsimp [decide_eq_true a]
      refine cl (hq) ?_;push_cast -dsimp
      refine cl (hp) ?_;push_cast -dsimp [decide_eq_true b,hkl,h40]
      exact dn (by push_cast -dsimp [ze,zd,CLe,zg,a,b,c,Bool.false_and])
    ·push_cast -dsimp [hkl,h]
     refine cl (hf) ?_;push_cast -dsimp [decide_eq_true a]
     refine cl (hq) ?_;push_cast -dsimp
     refine cl (hp) ?_;push_cast -dsimp [decide_eq_false b]
     exact dn (by push_cast -dsimp [ze,zd,CLe,zg,a,b,Bool.false_and])
   ·push_cast -dsimp [hkl,h]
    refine cl (hf) ?_;push_cast -dsimp [decide_eq_false a]
    exact dn (by push_cast -dsimp [ze,zd,CLe,zg,a,Bool.false_and])
structure zqb (w:qg):Prop where
 fs:FsS w.fs
 kept:w.kept.length<=10000
 pool:FsS ⟨0,0,0,w.pool⟩
theorem Uo (w:qg) (hw:zqb w):Fun Tryz.prog G0 20 [jB w] (qO (decide (YX w))) 0:=by
 have hfl:=hw.fs.len
 have hkk:=hw.kept
 have hpp:w.pool.length<=10000:=hw.pool.len
 have hkl:(zH w.kept).length=w.kept.length:=List.length_map ..
 have hpl:(zt w.pool).length=w.pool.length:=List.length_map ..
 have hch:=zfR w.fs hw.fs
 have hq:=Zh (G:=G0) w
 have hri:=Ua (G:=G0) ⟨0,0,0,w.pool⟩ (by simp only;omega)
 by_cases c1:JL w.fs=0
 case neg =>
  have hn:¬YX w:=fun h=>c1 h.1
  refine fof (fun i=>if i=14 then Ut 8 9 else []) Tryz.func20 ?_;dsimp only[Tryz.f20]
  push_cast -dsimp
  refine cl (hch) ?_;push_cast -dsimp [c1]
  exact dn (by push_cast -dsimp [ze,zd,CLe,zg,hn])
 by_cases c2:z7 w.pool
 case neg =>
  have hn:¬YX w:=fun h=>c2 h.2.1
  rw[decide_eq_false c2]at hri
  refine fof (fun i=>if i=14 then Ut 8 9 else []) Tryz.func20 ?_;dsimp only[Tryz.f20]
  push_cast -dsimp
  refine cl (hch) ?_;push_cast -dsimp [c1]
  refine cl (hq) ?_;push_cast -dsimp
  refine cl (hri) ?_;push_cast -dsimp
  exact dn (by push_cast -dsimp [ze,zd,CLe,zg,hn])
 rw[decide_eq_true c2]at hri
 refine fof (fun i=>if i=14 then Ut 8 9 else []) Tryz.func20 ?_;dsimp only[Tryz.f20]
 push_cast -dsimp
 refine cl (hch) ?_;push_cast -dsimp [c1]
 refine cl (hq) ?_;push_cast -dsimp
 refine cl (hri) ?_;push_cast -dsimp
 refine loop (fun i:Nat=>⟨[(1,.ptr 0 0),(3,.sc (.int .i64 i))],[kI w],0,0⟩) (fun i=>i<=w.pool.length/\∀ x∈w.pool.take i,qC w x) (fun i=>w.pool.length-i) 0 ⟨Nat.zero_le _,fun x hx=>by simp at hx⟩ ?_ ?_
 ·exact wk
 rintro i ⟨h1,h2⟩
 by_cases h:i<w.pool.length
 ·have g:=jb w.pool i h
  have hn:=hw.pool.node _ (List.getElem_mem h)
  have hpo:=za1 w w.pool[i] (by omega) (by omega) (by omega) (by omega)
  by_cases c3:qC w w.pool[i]
  ·rw[decide_eq_true c3]at hpo
   push_cast -dsimp [hpl,h,g]
   repeat refine an ?_
   refine cl (hpo) ?_;push_cast -dsimp
   repeat refine an ?_
   exact ⟨i+1,⟨h,qo h h2 c3⟩,by omega,wk⟩
  ·rw[decide_eq_false c3]at hpo
   have hn:¬YX w:=fun q=>c3 (q.2.2.1 _ (List.getElem_mem h))
   push_cast -dsimp [hpl,h,g]
   repeat refine an ?_
   refine cl (hpo) ?_;push_cast -dsimp
   exact dn (by push_cast -dsimp [ze,zd,CLe,zg,hn])
 rw[List.take_of_length_le (by omega)]at h2
 have hs0:X8 []:=⟨List.Pairwise.nil,fun k hk=>by cases hk⟩
 have hl0:jy []=0:=rfl
 push_cast -dsimp [hpl,h]
 clear hri hq hch
 refine loop (fun i:Nat=>⟨[(1,.ptr 0 0),(4,.sc (.int .i64 (jy (w.kept.take i)))),(5,.sc (.int .i64 i))],[kI w],0,0⟩) (fun i=>i<=w.kept.length/\X8 (w.kept.take i)/\∀ k∈w.kept.take i,Xx w k) (fun i=>w.kept.length-i) 0 ⟨Nat.zero_le _,by rw[List.take_zero];exact hs0,fun x hx=>by simp at hx⟩ ?_ ?_
 ·exact wk (by push_cast -dsimp [ze,zd,CLe,zg,List.take_zero,hl0])
 rintro i ⟨i1,i2,i3⟩
 by_cases hi:i<w.kept.length
 case neg =>
  rw[List.take_of_length_le (by omega)]at i2 i3
  have hn:YX w:=⟨c1,c2,h2,i2,i3⟩
  push_cast -dsimp [hkl,hi]
  exact dn (by push_cast -dsimp [ze,zd,CLe,zg,hn])
 have g:=jr w.kept i hi
 have hlt:=kw hi
 have hst:w.kept.take (i+1)=w.kept.take i++[w.kept[i]]:=by rw[List.take_add_one,List.getElem?_eq_getElem hi];rfl
 have hbad1:¬jy (w.kept.take i)<w.kept[i].slot->¬YX w:=fun hn q=>hn (Uy.1 (by
  rw[←hst]
  exact ⟨q.2.2.2.1.1.sublist (List.take_sublist _ _),fun k hk=>q.2.2.2.1.2 k (List.mem_of_mem_take hk)⟩)).2
 have hbad2:¬Xx w w.kept[i]->¬YX w:=fun hn q=>hn (q.2.2.2.2 _ (List.getElem_mem hi))
 have hgood:jy (w.kept.take i)<w.kept[i].slot->X8 (w.kept.take (i+1)):=fun q=>by rw[hst];exact Uy.2 ⟨i2,q⟩
 have hgood2:Xx w w.kept[i]->∀ k∈w.kept.take (i+1),Xx w k:=fun q=>qo hi i3 q
 have hg1:=qG (G:=G0) w.fs w.kept[i].ino (by omega)
 have hq:=Zh (G:=G0) w
 have hg2:=qG (G:=G0) ⟨0,0,0,w.pool⟩ w.kept[i].ino (by simp only;omega)
 simp only at hg2
 generalize w.kept[i]=k at g hlt hbad1 hbad2 hgood hgood2 hg1 hg2
 generalize jy (w.kept.take i)=la at hbad1 hgood
 clear hst i2 i3
 by_cases d1:k.slot<=la
 ·have hn:=hbad1 (by omega)
  push_cast -dsimp [hkl,hi,g]
  repeat refine an ?_
  refine cl (hg1) ?_;push_cast -dsimp
  refine cl (hq) ?_;push_cast -dsimp
  refine cl (hg2) ?_;push_cast -dsimp [d1]
  exact dn (by push_cast -dsimp [ze,zd,CLe,zg,hn])
 have hgd:=hgood (by omega)
 by_cases d2:1073741824<k.slot
 ·have hn:=hbad2 fun q=>by have:=q.1;omega
  push_cast -dsimp [hkl,hi,g]
  repeat refine an ?_
  refine cl (hg1) ?_;push_cast -dsimp
  refine cl (hq) ?_;push_cast -dsimp
  refine cl (hg2) ?_;push_cast -dsimp [d1,d2]
  exact dn (by push_cast -dsimp [ze,zd,CLe,zg,hn])
 cases e2:zn k.ino w.pool with
 | true =>
  rw[e2]at hg2
  by_cases d4:k.content=true
  ·by_cases d5:(zh k.ino w.pool).kind=1
   ·have hok:Xx w k:=⟨by omega,.inr e2,fun _=>by rw[if_pos e2];exact d5,fun q=>by rw[d4]at q;cases q⟩
    cases e1:zn k.ino w.fs.xs <;>
    ·rw[e1]at hg1
     push_cast -dsimp [hkl,hi,g]
     repeat refine an ?_
     refine cl (hg1) ?_;push_cast -dsimp
     refine cl (hq) ?_;push_cast -dsimp
     refine cl (hg2) ?_;push_cast -dsimp [d1,d2,d4,d5]
     repeat refine an ?_
     exact ⟨i+1,⟨hi,hgd,hgood2 hok⟩,by omega,wk (by push_cast -dsimp [ze,zd,CLe,zg,hlt])⟩
   ·have hn:=hbad2 fun q=>d5 (by have:=q.2.2.1 d4;rwa [if_pos e2]at this)
    cases e1:zn k.ino w.fs.xs <;>
    ·rw[e1]at hg1
     push_cast -dsimp [hkl,hi,g]
     repeat refine an ?_
     refine cl (hg1) ?_;push_cast -dsimp
     refine cl (hq) ?_;push_cast -dsimp
     refine cl (hg2) ?_;push_cast -dsimp [d1,d2,d4,d5]
     exact dn (by push_cast -dsimp [ze,zd,CLe,zg,hn])
  ·have d4:=Bool.eq_false_iff.2 d4
   by_cases d6:k.data = []
   ·have hok:Xx w k:=⟨by omega,.inr e2,fun q=>(by rw[d4]at q;cases q),fun _=>d6⟩
    cases e1:zn k.ino w.fs.xs <;>
    ·rw[e1]at hg1
     push_cast -dsimp [hkl,hi,g]
     repeat refine an ?_
     refine cl (hg1) ?_;push_cast -dsimp
     refine cl (hq) ?_;push_cast -dsimp
     refine cl (hg2) ?_;push_cast -dsimp [d1,d2,d4,d6]
     repeat refine an ?_
     exact ⟨i+1,⟨hi,hgd,hgood2 hok⟩,by omega,wk (by push_cast -dsimp [ze,zd,CLe,zg,hlt])⟩
   ·have hn:=hbad2 fun q=>d6 (q.2.2.2 d4)
    cases e1:zn k.ino w.fs.xs <;>
    ·rw[e1]at hg1
     push_cast -dsimp [hkl,hi,g]
     repeat refine an ?_
     refine cl (hg1) ?_;push_cast -dsimp
     refine cl (hq) ?_;push_cast -dsimp
     refine cl (hg2) ?_;push_cast -dsimp [d1,d2,d4,d6]
     exact dn (by push_cast -dsimp [ze,zd,CLe,zg,hn])
 | false =>
  rw[e2]at hg2
  cases e1:zn k.ino w.fs.xs with
  | false =>
   rw[e1]at hg1
   have hn:=hbad2 fun q=>by
    rcases q.2.1 with q | q
    ·rw[e1]at q;cases q
    ·rw[e2]at q;cases q
   push_cast -dsimp [hkl,hi,g]
   repeat refine an ?_
   refine cl (hg1) ?_;push_cast -dsimp
   refine cl (hq) ?_;push_cast -dsimp
   refine cl (hg2) ?_;push_cast -dsimp [d1,d2]
   exact dn (by push_cast -dsimp [ze,zd,CLe,zg,hn])
  | true =>
   rw[e1]at hg1
   have e2':¬zn k.ino w.pool=true:=by rw[e2];decide
   by_cases d4:k.content=true
   ·by_cases d5:(zh k.ino w.fs.xs).kind=1
    ·have hok:Xx w k:=⟨by omega,.inl e1,fun _=>by rw[if_neg e2'];exact d5,fun q=>by rw[d4]at q;cases q⟩
     push_cast -dsimp [hkl,hi,g]
     repeat refine an ?_
     refine cl (hg1) ?_;push_cast -dsimp
     refine cl (hq) ?_;push_cast -dsimp
     refine cl (hg2) ?_;push_cast -dsimp [d1,d2,d4,d5]
     repeat refine an ?_
     exact ⟨i+1,⟨hi,hgd,hgood2 hok⟩,by omega,wk (by push_cast -dsimp [ze,zd,CLe,zg,hlt])⟩
    ·have hn:=hbad2 fun q=>d5 (by have:=q.2.2.1 d4;rwa [if_neg e2']at this)
     push_cast -dsimp [hkl,hi,g]
     repeat refine an ?_
     refine cl (hg1) ?_;push_cast -dsimp
     refine cl (hq) ?_;push_cast -dsimp
     refine cl (hg2) ?_;push_cast -dsimp [d1,d2,d4,d5]
     exact dn (by push_cast -dsimp [ze,zd,CLe,zg,hn])
   ·have d4:=Bool.eq_false_iff.2 d4
    by_cases d6:k.data = []
    ·have hok:Xx w k:=⟨by omega,.inl e1,fun q=>(by rw[d4]at q;cases q),fun _=>d6⟩
     push_cast -dsimp [hkl,hi,g]
     repeat refine an ?_
     refine cl (hg1) ?_;push_cast -dsimp
     refine cl (hq) ?_;push_cast -dsimp
     refine cl (hg2) ?_;push_cast -dsimp [d1,d2,d4,d6]
     repeat refine an ?_
     exact ⟨i+1,⟨hi,hgd,hgood2 hok⟩,by omega,wk (by push_cast -dsimp [ze,zd,CLe,zg,hlt])⟩
    ·have hn:=hbad2 fun q=>d6 (q.2.2.2 d4)
     push_cast -dsimp [hkl,hi,g]
     repeat refine an ?_
     refine cl (hg1) ?_;push_cast -dsimp
     refine cl (hq) ?_;push_cast -dsimp
     refine cl (hg2) ?_;push_cast -dsimp [d1,d2,d4,d6]
     exact dn (by push_cast -dsimp [ze,zd,CLe,zg,hn])
theorem zgE.m {w:qg} (h:zgE w):zqb w:=⟨h.2.1.fs,by have:=h.2.2.2;omega,VS.fs (f:=⟨0,0,0,w.pool⟩) h.2.2.1⟩
theorem zeR (w:qg):Fun Tryz.prog G0 31 [jB w] (qO (decide (okW w))) 0:=by
 by_cases c:zgE w
 ·have h1:=HM w
  have h2:=Uo w c.m
  rw[decide_eq_true c]at h1
  have e:decide (okW w)=decide (YX w):=by by_cases r:YX w<;>simp[okW,c,r]
  refine fon Tryz.func31 ?_;dsimp only[Tryz.f31]
  push_cast -dsimp
  refine cl (h1) ?_;push_cast -dsimp
  refine cl (h2) ?_;push_cast -dsimp
  exact dn (by push_cast -dsimp [ze,zd,CLe,zg,e])
 ·have h1:=HM w
  rw[decide_eq_false c]at h1
  have e:¬okW w:=fun h=>c h.1
  refine fon Tryz.func31 ?_;dsimp only[Tryz.f31]
  push_cast -dsimp
  refine cl (h1) ?_;push_cast -dsimp
  exact dn (by push_cast -dsimp [ze,zd,CLe,zg,e])
end
section
open Go.RowKit
section
variable {G:zr}
theorem zfW (n:Nat) (hn:n<=200000) (h0:0<n):XG Tryz.prog G 100 [.sc (.slice none 0 0),.sc (.int .i64 n)] [] 0 (fun r bx' m=>m=0/\∃ (c:Nat) (B:List C),n<=c/\c<=9223372036854775807/\B.length=c*5/\(B.all C.stayB)=true/\r = .bs 0 0 5 0 c/\bx' = [B]):=by
 have hp:((n:Int)<0)=False:=eq_false (by omega)
 have hq:((0:Int)<(n:Int))=True:=eq_true (by omega)
 refine foX (fun i=>if i=1000000+30 then [true,true] else []) Tryz.func100 ?_;dsimp only[Tryz.f100]
 push_cast -dsimp [hp,hq]
 refine ⟨⟨by omega,by omega⟩,zdR zhb znd zic rfl (by decide) rfl (by omega) (by omega) (by omega) (fun c h1 h2=>?_)⟩
 push_cast -dsimp
 have hm:(n:Int).toNat=n:=by omega
 rw[hm]at h1
 have h2:c<=9223372036854775807:=h2
 refine ⟨by omega,by omega,_,[(List.replicate n [C.sc (.int .i64 0),C.sc (.int .i64 0),C.str [],C.str [],C.str []]).flatten++List.replicate ((c-n)*5) C.any],0,⟨⟨rfl,c,_,h1,h2,?_,?_,rfl,rfl⟩,Nat.zero_le _⟩,[],rfl,rfl,?_,by push_cast -dsimp [ze,zd,CLe,zg]⟩
 ·simp[hm];omega
 ·simp[List.all_append,List.all_replicate,C.stayB]
 ·push_cast -dsimp [ze,zd,CLe,zg]
  exact zT (by simp[List.all_append,List.all_replicate,C.stayB])
theorem zeK (n:Nat) (hn:n<=200000) (h0:0<n):XG Tryz.prog G 101 [.sc (.slice none 0 0),.sc (.int .i64 n)] [] 0 (fun r bx' m=>m=0/\∃ (c:Nat) (B:List C),n<=c/\c<=9223372036854775807/\B.length=c*1/\(B.all C.stayB)=true/\r = .bs 0 0 1 0 c/\bx' = [B]):=by
 have hp:((n:Int)<0)=False:=eq_false (by omega)
 have hq:((0:Int)<(n:Int))=True:=eq_true (by omega)
 refine foX (fun i=>if i=1000000+33 then [true,true] else []) Tryz.func101 ?_;dsimp only[Tryz.f101]
 push_cast -dsimp [hp,hq]
 refine ⟨⟨by omega,by omega⟩,zdR zii znd zp0 rfl (by decide) rfl (by omega) (by omega) (by omega) (fun c h1 h2=>?_)⟩
 push_cast -dsimp
 have hm:(n:Int).toNat=n:=by omega
 rw[hm]at h1
 have h2:c<=9223372036854775807:=h2
 refine ⟨by omega,by omega,_,[(List.replicate n [C.str []]).flatten++List.replicate ((c-n)*1) C.any],0,⟨⟨rfl,c,_,h1,h2,?_,?_,rfl,rfl⟩,Nat.zero_le _⟩,[],rfl,rfl,?_,by push_cast -dsimp [ze,zd,CLe,zg]⟩
 ·simp[hm];omega
 ·simp[List.all_append,List.all_replicate,C.stayB]
 ·push_cast -dsimp [ze,zd,CLe,zg]
  exact zT (by simp[List.all_append,List.all_replicate,C.stayB])
end
end
section
open Go.RowKit
def szN (a b:Nat):Nat->Nat
 | 0=>0
 | 1=>a
 | _=>a+b
def zno {α:Type} (a b:List α):Nat->List α
 | 0=>[]
 | 1=>a
 | _=>a++b
structure GS (k c:Nat) (a b:List (List C)) (j:Nat) (X:List C):Prop where
 len:X.length=c*k
 stay:(X.all C.stayB)=true
 cells:X.take (szN a.length b.length j*k)=(zno a b j).flatten
theorem GS.step {k c:Nat} {a b r:List (List C)} {j:Nat} {X:List C} (h:GS k c a b j X) (hr:zno a b (j+1)=zno a b j++r) (hn:szN a.length b.length (j+1)=szN a.length b.length j+r.length) (hk:∀ x∈r,x.length=k) (hs:jA r) (hc:szN a.length b.length (j+1)<=c) :
  GS k c a b (j+1) (spl X (szN a.length b.length j*k) r.flatten):=by
 have hf:=qt hk
 obtain ⟨h1,h2,h3⟩:=h
 have hle:(szN a.length b.length j+r.length)*k<=c*k:=Nat.mul_le_mul_right k (by omega)
 rw[Nat.add_mul]at hle
 refine ⟨by rw[QW (by omega)];exact h1,?_,?_⟩
 ·unfold spl
  rw[List.all_append,List.all_append,Bool.and_eq_true,Bool.and_eq_true]
  rw[List.all_eq_true]at h2
  exact ⟨⟨List.all_eq_true.2 fun x hx=>h2 x (List.mem_of_mem_take hx),Qe hs⟩,List.all_eq_true.2 fun x hx=>h2 x (List.mem_of_mem_drop hx)⟩
 ·unfold spl
  rw[hn,Nat.add_mul,hr,List.flatten_append,←h3,List.append_assoc,List.take_append]
  have e1:(X.take (szN a.length b.length j*k)).length=szN a.length b.length j*k:=by rw[List.length_take];omega
  rw[e1,List.take_of_length_le (by omega),Nat.add_sub_cancel_left,List.take_append,←hf,List.take_of_length_le (Nat.le_refl _)]
  simp
structure zm7 (k c:Nat) (rows:List (List C)) (B:List C):Prop where
 fit:rows.length<=c
 max:c<=9223372036854775807
 len:B.length=c*k
 stay:(B.all C.stayB)=true
 cells:B.take (rows.length*k)=rows.flatten
theorem zm7.ok {k c e i:Nat} {rows:List (List C)} {B:List C} {bx:List (List C)} (h:zm7 k c rows B) (hb:bx[i]?=some B) (h0:0<rows.length) (hk:∀ r∈rows,r.length=k):zaq [(i,e,k,rows,c)] bx:=
 vJ hb (Nat.lt_of_lt_of_le h0 h.fit) h.fit h.max h.len hk h.stay h.cells
section
variable {G:zr}
theorem zc3 (a b:List (List C)) (ka:∀ r∈a,r.length=5) (kb:∀ r∈b,r.length=5) (sa:jA a) (sb:jA b) (la:a.length<=90000) (lb:b.length<=90000) (h0:0<b.length) :
  XG Tryz.prog G 58 [.sl 1 [[.sl 5 a],[.sl 5 b]]] [] 0 (fun r bx n=>n=0/\∃ c B,zm7 5 c (a++b) B/\r = .bs 0 0 5 (a++b).length c/\bx = [B]):=by
 refine foX (fun i=>if i=1000000+30 then [true,true] else []) Tryz.func58 ?_;dsimp only[Tryz.f58]
 push_cast -dsimp
 refine loop (fun j:Nat=>⟨[(0,.sl 1 [[.sl 5 a],[.sl 5 b]]),(2,.sc (.slice none 0 0)),(3,.sc (.int .i64 (szN a.length b.length j:Nat))),(9,.sl 1 [[.sl 5 a],[.sl 5 b]]),(10,.sc (.int .i64 2)),(11,.sc (.int .i64 j))],[],0,0⟩) (fun j=>j<=2) (fun j=>2-j) 0 (by decide) ?_ ?_
 ·exact wk (by push_cast -dsimp [ze,zd,CLe,zg,szN])
 intro j hj
 obtain rfl | rfl | rfl:j=0∨j=1∨j=2:=by omega
 ·have hn:(((a.length:Int))<0)=False:=eq_false (by omega)
  push_cast -dsimp [szN,hn]
  exact ⟨⟨by omega,by omega⟩,1,by decide,by decide,wk (by push_cast -dsimp [ze,zd,CLe,zg,szN])⟩
 ·have hn:(((a.length:Int)+(b.length:Int))<0)=False:=eq_false (by omega)
  push_cast -dsimp [szN,hn]
  exact ⟨⟨by omega,by omega⟩,2,by decide,by decide,wk (by push_cast -dsimp [ze,zd,CLe,zg,szN])⟩
 ·push_cast -dsimp [szN]
  refine Jl [] [] (zfW (G:=G) (a.length+b.length) (by omega) (by omega)) rfl (by decide) (by decide) (by simp) (by push_cast -dsimp) (by push_cast -dsimp) (fun r bx' m hp=>?_)
  obtain ⟨rfl,c,B,h1,h2,h3,h4,rfl,rfl⟩:=hp
  have hre:∀ fp fo,C.reL fp fo B=B:=fun fp fo=>zB h4
  push_cast -dsimp [hre]
  refine loop (fun p:Nat×List C=>⟨[(0,.sl 1 [[.sl 5 a],[.sl 5 b]]),(6,.bs 0 0 5 (szN a.length b.length p.1) c),(25,.sl 1 [[.sl 5 a],[.sl 5 b]]),(26,.sc (.int .i64 2)),(27,.sc (.int .i64 p.1))],[p.2],0,0⟩) (fun p=>p.1<=2/\GS 5 c a b p.1 p.2) (fun p=>2-p.1) (0,B) ⟨Nat.zero_le _,h3,h4,by simp[szN,zno]⟩ ?_ ?_
  ·exact JP.mk [] rfl rfl (Nat.zero_le _) rfl (by push_cast -dsimp [ze,zd,CLe,zg,szN]) (by (push_cast -dsimp [ze,zd,CLe,zg];exact zT h4))
  rintro ⟨j,X⟩ ⟨hj,hX⟩
  have hj:j<=2:=hj
  obtain rfl | rfl | rfl:j=0∨j=1∨j=2:=by omega
  ·have hs:=hX.step (r:=a) rfl (by simp[szN]) ka sa (by simp[szN];omega)
   push_cast -dsimp [szN]
   refine Q6 zhb zic rfl rfl (by decide) rfl (qt ka) rfl (by rw[hX.len];omega) (Nat.zero_le _) (by omega) (by omega) (fun hc=>?_) (fun hc=>absurd hc (by omega))
   push_cast -dsimp
   have hs:GS 5 c a b 1 (spl X 0 a.flatten):=by simpa [szN] using hs
   exact ⟨(1,spl X 0 a.flatten),⟨Nat.le_succ 1,hs⟩,by (simp only;omega),JP.mk [] rfl rfl (Nat.zero_le _) rfl (by push_cast -dsimp [ze,zd,CLe,zg,szN]) (by (push_cast -dsimp [ze,zd,CLe,zg];exact zT hs.stay))⟩
  ·have hs:=hX.step (r:=b) rfl (by simp[szN]) kb sb (by simp[szN];omega)
   push_cast -dsimp [szN]
   refine Q6 zhb zic rfl rfl (by decide) rfl (qt kb) rfl (by rw[hX.len];omega) (by omega) (by omega) (by omega) (fun hc=>?_) (fun hc=>absurd hc (by omega))
   push_cast -dsimp
   have hs:GS 5 c a b 2 (spl X (a.length*5) b.flatten):=by simpa [szN] using hs
   exact ⟨(2,spl X (a.length*5) b.flatten),⟨Nat.le_refl 2,hs⟩,by (simp only;omega),JP.mk [] rfl rfl (Nat.zero_le _) rfl (by push_cast -dsimp [ze,zd,CLe,zg,szN]) (by (push_cast -dsimp [ze,zd,CLe,zg];exact zT hs.stay))⟩
  ·push_cast -dsimp [szN]
   exact ⟨_,[X],0,⟨⟨rfl,c,X,⟨by rw[List.length_append];omega,h2,hX.len,hX.stay,by rw[List.length_append];exact hX.cells⟩,rfl,rfl⟩,Nat.zero_le _⟩,[],rfl,rfl,by (push_cast -dsimp [ze,zd,CLe,zg];exact zT hX.stay),by push_cast -dsimp [ze,zd,CLe,zg,List.length_append]⟩
theorem zfi (a b:List (List C)) (ka:∀ r∈a,r.length=1) (kb:∀ r∈b,r.length=1) (sa:jA a) (sb:jA b) (la:a.length<=90000) (lb:b.length<=90000) (h0:0<b.length) :
  XG Tryz.prog G 59 [.sl 1 [[.sl 1 a],[.sl 1 b]]] [] 0 (fun r bx n=>n=0/\∃ c B,zm7 1 c (a++b) B/\r = .bs 0 0 1 (a++b).length c/\bx = [B]):=by
 refine foX (fun i=>if i=1000000+33 then [true,true] else []) Tryz.func59 ?_;dsimp only[Tryz.f59]
 push_cast -dsimp
 refine loop (fun j:Nat=>⟨[(0,.sl 1 [[.sl 1 a],[.sl 1 b]]),(2,.sc (.slice none 0 0)),(3,.sc (.int .i64 (szN a.length b.length j:Nat))),(9,.sl 1 [[.sl 1 a],[.sl 1 b]]),(10,.sc (.int .i64 2)),(11,.sc (.int .i64 j))],[],0,0⟩) (fun j=>j<=2) (fun j=>2-j) 0 (by decide) ?_ ?_
 ·exact wk (by push_cast -dsimp [ze,zd,CLe,zg,szN])
 intro j hj
 obtain rfl | rfl | rfl:j=0∨j=1∨j=2:=by omega
 ·have hn:(((a.length:Int))<0)=False:=eq_false (by omega)
  push_cast -dsimp [szN,hn]
  exact ⟨⟨by omega,by omega⟩,1,by decide,by decide,wk (by push_cast -dsimp [ze,zd,CLe,zg,szN])⟩
 ·have hn:(((a.length:Int)+(b.length:Int))<0)=False:=eq_false (by omega)
  push_cast -dsimp [szN,hn]
  exact ⟨⟨by omega,by omega⟩,2,by decide,by decide,wk (by push_cast -dsimp [ze,zd,CLe,zg,szN])⟩
 ·push_cast -dsimp [szN]
  refine Jl [] [] (zeK (G:=G) (a.length+b.length) (by omega) (by omega)) rfl (by decide) (by decide) (by simp) (by push_cast -dsimp) (by push_cast -dsimp) (fun r bx' m hp=>?_)
  obtain ⟨rfl,c,B,h1,h2,h3,h4,rfl,rfl⟩:=hp
  have hre:∀ fp fo,C.reL fp fo B=B:=fun fp fo=>zB h4
  push_cast -dsimp [hre]
  refine loop (fun p:Nat×List C=>⟨[(0,.sl 1 [[.sl 1 a],[.sl 1 b]]),(6,.bs 0 0 1 (szN a.length b.length p.1) c),(25,.sl 1 [[.sl 1 a],[.sl 1 b]]),(26,.sc (.int .i64 2)),(27,.sc (.int .i64 p.1))],[p.2],0,0⟩) (fun p=>p.1<=2/\GS 1 c a b p.1 p.2) (fun p=>2-p.1) (0,B) ⟨Nat.zero_le _,h3,h4,by simp[szN,zno]⟩ ?_ ?_
  ·exact JP.mk [] rfl rfl (Nat.zero_le _) rfl (by push_cast -dsimp [ze,zd,CLe,zg,szN]) (by (push_cast -dsimp [ze,zd,CLe,zg];exact zT h4))
  rintro ⟨j,X⟩ ⟨hj,hX⟩
  have hj:j<=2:=hj
  obtain rfl | rfl | rfl:j=0∨j=1∨j=2:=by omega
  ·have hs:=hX.step (r:=a) rfl (by simp[szN]) ka sa (by simp[szN];omega)
   push_cast -dsimp [szN]
   refine Q6 zii zp0 rfl rfl (by decide) rfl (qt ka) rfl (by rw[hX.len];omega) (Nat.zero_le _) (by omega) (by omega) (fun hc=>?_) (fun hc=>absurd hc (by omega))
   push_cast -dsimp
   have hs:GS 1 c a b 1 (spl X 0 a.flatten):=by simpa [szN] using hs
   exact ⟨(1,spl X 0 a.flatten),⟨Nat.le_succ 1,hs⟩,by (simp only;omega),JP.mk [] rfl rfl (Nat.zero_le _) rfl (by push_cast -dsimp [ze,zd,CLe,zg,szN]) (by (push_cast -dsimp [ze,zd,CLe,zg];exact zT hs.stay))⟩
  ·have hs:=hX.step (r:=b) rfl (by simp[szN]) kb sb (by simp[szN];omega)
   push_cast -dsimp [szN]
   refine Q6 zii zp0 rfl rfl (by decide) rfl (qt kb) rfl (by rw[hX.len];omega) (by omega) (by omega) (by omega) (fun hc=>?_) (fun hc=>absurd hc (by omega))
   push_cast -dsimp
   have hs:GS 1 c a b 2 (spl X (a.length) b.flatten):=by simpa [szN] using hs
   exact ⟨(2,spl X (a.length) b.flatten),⟨Nat.le_refl 2,hs⟩,by (simp only;omega),JP.mk [] rfl rfl (Nat.zero_le _) rfl (by push_cast -dsimp [ze,zd,CLe,zg,szN]) (by (push_cast -dsimp [ze,zd,CLe,zg];exact zT hs.stay))⟩
  ·push_cast -dsimp [szN]
   exact ⟨_,[X],0,⟨⟨rfl,c,X,⟨by rw[List.length_append];omega,h2,hX.len,hX.stay,by rw[List.length_append];exact hX.cells⟩,rfl,rfl⟩,Nat.zero_le _⟩,[],rfl,rfl,by (push_cast -dsimp [ze,zd,CLe,zg];exact zT hX.stay),by push_cast -dsimp [ze,zd,CLe,zg,List.length_append]⟩
end
end
end Go.Proofs.YtiblepfehggicaaGreatDoor.Vcg
section
namespace Go.Proofs.YtiblepfehggicaaGreatDoor.Kit
open Go.RowKit
theorem Hr {a b:ByteArray} (h:a=b):Ending.returned (.string a) = .returned (.string b):=by rw[h]
def toL (s:ByteArray):List UInt8:=s.data.toList
def ofL (l:List UInt8):ByteArray:=⟨l.toArray⟩
@[simp] theorem zdw (l:List UInt8):toL (ofL l)=l:=by simp[toL,ofL]
@[simp] theorem zqV (s:ByteArray):ofL (toL s)=s:=by cases s;simp[toL,ofL]
theorem HO (a b:List UInt8):ofL a++ofL b=ofL (a++b):=ByteArray.mk_append_mk a b
theorem Gm (s:ByteArray):(toL s).length=s.size:=Array.length_toList
theorem ZP (l:List UInt8):(ofL l).size=l.length:=by rw[←Gm,zdw]
def join (sep:ByteArray) (xs:List ByteArray):ByteArray:=⟨(Lib.join (xs.map (·.data.toList)) sep.data.toList).toArray⟩
theorem join_one (sep x:ByteArray):join sep [x]=x:=by
 cases x;simp[join,Lib.join_one]
def zll (w:World) (v:Value) (xs:List ByteArray):Prop:=
 ∃ a cap,v = .slice a xs.length cap/\xs.length<=cap/\(cap:Int)<=9223372036854775807 /\
  (xs = []∨∃ b o,a=some ⟨b,o,none⟩/\b<w.heap.size/\∀ j,j<xs.length->w.cell? ⟨b,o+j,none⟩=some (.string (xs.getD j ⟨#[]⟩)))
theorem zll.below {w w':World} {v:Value} {xs:List ByteArray} {B:Nat} (h:zll w v xs) (hb:Below B w w') (hB:w.heap.size<=B):zll w' v xs:=by
 obtain ⟨a,cap,e,h1,h2,h3⟩:=h
 refine ⟨a,cap,e,h1,h2,?_⟩
 rcases h3 with h3 | ⟨b,o,e1,e2,e3⟩
 ·exact .inl h3
 ·exact .inr ⟨b,o,e1,Nat.lt_of_lt_of_le e2 hb.size,fun j hj=>by rw[hb.cell (p:=⟨b,o+j,none⟩) (Nat.lt_of_lt_of_le e2 hB)];exact e3 j hj⟩
theorem zll.new (w:World) (xs:List ByteArray) (cs:Array Value) (T:TypeId) (n:Nat) (hcs:cs=(xs.map Value.string).toArray) (hn:n=xs.length) (hm:n<=9223372036854775807) (fr:Nat×Nat) :
  zll (w.alloc (.cells cs T fr)) (.slice (some ⟨w.heap.size,0,none⟩) n n) xs:=by
 subst hcs hn
 refine ⟨_,_,rfl,Nat.le_refl _,by omega,?_⟩
 refine .inr ⟨_,_,rfl,by rw[World.size_alloc];omega,fun j hj=>?_⟩
 have h1:(w.alloc (.cells (xs.map Value.string).toArray T fr)).heap[w.heap.size]?=some (.cells (xs.map Value.string).toArray T fr):=by
  show (w.heap.push _)[w.heap.size]?=_
  rw[Array.getElem?_push,if_pos rfl]
 simp only[World.cell?,h1]
 show ((xs.map Value.string).toArray)[0+j]?=_
 rw[Nat.zero_add,List.getElem?_toArray,List.getElem?_map,List.getElem?_eq_getElem hj,List.getD_eq_getElem?_getD,List.getElem?_eq_getElem hj];rfl
theorem zll.nil (w:World) (a:Option Addr) (cap:Nat) (hm:cap<=9223372036854775807):zll w (.slice a 0 cap) []:=⟨a,cap,rfl,Nat.zero_le _,by omega,.inl rfl⟩
end Go.Proofs.YtiblepfehggicaaGreatDoor.Kit
end
section
namespace Go.Proofs.YtiblepfehggicaaGreatDoor.Kit
open Go.RowKit
def byteCells (l:List UInt8):Array Value:=(l.map fun c=>Value.int .u8 (c.toNat:Int)).toArray
theorem Us (w:World) (l:List UInt8) (T:TypeId) (fr:Nat×Nat) (n:Nat) (hn:n=w.heap.size):Lib.Bytes (w.alloc (.cells (byteCells l) T fr)) n 0 (ofL l):=by
 intro i h
 subst hn
 have h1:(w.alloc (.cells (byteCells l) T fr)).heap[w.heap.size]?=some (.cells (byteCells l) T fr):=by
  show (w.heap.push _)[w.heap.size]?=_
  rw[Array.getElem?_push,if_pos rfl]
 simp only[World.cell?,h1]
 show (byteCells l)[0+i]?=_
 have h2:i<l.length:=by rw[ZP]at h;exact h
 rw[Nat.zero_add,byteCells,List.getElem?_toArray,List.getElem?_map,List.getElem?_eq_getElem h2]
 rfl
theorem Gs {P:Program} (w:World) (l:List UInt8) (src e dst:TypeId) (hs:P.underlying src=some (.slice e)) (he:P.underlying e=some (.int .u8)) (hd:P.underlying dst=some .string) (cs:Array Value) (hcs:cs=byteCells l) (fr:Nat×Nat) (m cap n:Nat) (hm:m=w.heap.size) (hn:n=l.length) :
  (convert src dst (.slice (some ⟨m,0,none⟩) n cap)).run P (w.alloc (.cells cs e fr)) = .ok (.string (ofL l)) (w.alloc (.cells cs e fr)):=by
 subst hcs hm hn
 have:=Lib.run_convert_whole (P:=P) (w.alloc (.cells (byteCells l) e fr)) src e dst hs he hd w.heap.size 0 (ofL l) (Us w l e fr _ rfl) cap
 rw[ZP]at this
 exact this
end Go.Proofs.YtiblepfehggicaaGreatDoor.Kit
end
section
namespace Go.Proofs.YtiblepfehggicaaGreatDoor
open Go.RowKit
namespace QuoteWalk
open Kit QuotePlain
theorem NM {c:UInt8} (h:good c=false):¬(32:Int)<=(c.toNat:Int)∨((32:Int)<=(c.toNat:Int)/\¬(c.toNat:Int)<=126)∨((32:Int)<=(c.toNat:Int)/\(c.toNat:Int)<=126/\((c.toNat:Int) != 34)=false) ∨
  ((32:Int)<=(c.toNat:Int)/\(c.toNat:Int)<=126/\((c.toNat:Int) != 34)=true/\((c.toNat:Int) != 92)=false):=by
 simp only[good,decide_eq_false_iff_not]at h
 simp only[bne_iff_ne,ne_eq,bne_eq_false_iff_eq]
 omega
theorem He {c:UInt8} (h:good c=true):(32:Int)<=(c.toNat:Int)/\(c.toNat:Int)<=126/\((c.toNat:Int) != 34)=true/\((c.toNat:Int) != 92)=true:=by
 simp only[good,decide_eq_true_eq]at h
 refine ⟨by omega,by omega,?_,?_⟩<;>(simp only[bne_iff_ne,ne_eq];omega)
theorem ye (c:UInt8) (w:World) :
  Calls Tryz.prog 192 #[.int .u8 c.toNat] w fun e w'=>e = .returned (.bool (good c))/\w=w':=by
 have hc:=c.toNat_lt
 cases hg:good c with
 | true =>
  obtain ⟨g1,g2,g3,g4⟩:=He hg
  clear hg
  go_enter Tryz.func192,Tryz.ntmps192
  go_wp2
  go_ret
  exact ⟨rfl,rfl⟩
 | false =>
  rcases NM hg with h | ⟨h0,h⟩ | ⟨h0,h1,h2⟩ | ⟨h0,h1,h2,h3⟩
  all_goals clear hg
  ·go_enter Tryz.func192,Tryz.ntmps192
   go_wp2
   go_ret
   exact ⟨rfl,rfl⟩
  ·go_enter Tryz.func192,Tryz.ntmps192
   go_wp2
   go_ret
   exact ⟨rfl,rfl⟩
  ·go_enter Tryz.func192,Tryz.ntmps192
   go_wp2
   go_ret
   exact ⟨rfl,rfl⟩
  ·go_enter Tryz.func192,Tryz.ntmps192
   go_wp2
   go_ret
   exact ⟨rfl,rfl⟩
theorem MZ (c:UInt8) (w:World) (hg:good c=true) :
  Calls Tryz.prog 156 #[.int .u8 c.toNat] w fun e w'=>e = .returned (.string (ofL (qb c)))/\Below w.heap.size w w':=by
 have hc:=c.toNat_lt
 have hq:=Lib.hid (show qb c = [c] by rw[qb,if_pos hg])
 obtain ⟨g1,g2,g3,g4⟩:=He hg
 have hcv:=Gs (P:=Tryz.prog) w [c] 157 5 9 Tryz.underlying157 Tryz.underlying5 Tryz.underlying9 #[.int .u8 c.toNat] rfl (0,0) w.heap.size 1 1 rfl rfl
 clear hg
 go_enter Tryz.func156,Tryz.ntmps156
 go_wp2
 go_ret
 exact ⟨by rw[hq.out];rfl,(Below.refl _ _).alloc (Nat.le_refl _) _⟩
theorem zrm (n:Nat) (h:n<16) (w:World):(Instr.index 9 (.string ⟨#[48,49,50,51,52,53,54,55,56,57,97,98,99,100,101,102]⟩) (.int .u8 (n:Int))).run Tryz.prog w = .ok (.int .u8 ((Nh n).toNat:Int)) w:=by
 rcases (by omega:n=0∨n=1∨n=2∨n=3∨n=4∨n=5∨n=6∨n=7∨n=8∨n=9∨n=10∨n=11∨n=12∨n=13∨n=14∨n=15) with rfl | rfl | rfl | rfl | rfl | rfl | rfl | rfl | rfl | rfl | rfl | rfl | rfl | rfl | rfl | rfl
 all_goals kernel_rfl
theorem zjP (c:UInt8) (w:World):(Instr.index 9 (.string ⟨#[48,49,50,51,52,53,54,55,56,57,97,98,99,100,101,102]⟩) (.int .u8 ((c.toNat:Int) / 16))).run Tryz.prog w = .ok (.int .u8 ((Nh (c.toNat / 16)).toNat:Int)) w:=
 zrm (c.toNat / 16) (by have:=c.toNat_lt;omega) w
theorem zkf (c:UInt8) (w:World):(Instr.index 9 (.string ⟨#[48,49,50,51,52,53,54,55,56,57,97,98,99,100,101,102]⟩) (.int .u8 ((c.toNat:Int) % 16))).run Tryz.prog w = .ok (.int .u8 ((Nh (c.toNat % 16)).toNat:Int)) w:=
 zrm (c.toNat % 16) (by omega) w
theorem zkC (c:UInt8):IntKind.u8.wrap ((c.toNat:Int) / 16)=(c.toNat:Int) / 16:=by
 have:=c.toNat_lt
 exact IntWalk.u8_in _ (by omega)
theorem zle (c:UInt8):IntKind.u8.wrap ((c.toNat:Int) % 16)=(c.toNat:Int) % 16:=by
 have:=c.toNat_lt
 exact IntWalk.u8_in _ (by omega)
theorem zlr (c:UInt8):(c.toNat:Int).tmod 16=(c.toNat:Int) % 16:=Int.tmod_eq_emod_of_nonneg (by omega)
theorem yl (c:UInt8) (w:World) (hg:good c=false) :
  Calls Tryz.prog 156 #[.int .u8 c.toNat] w fun e w'=>e = .returned (.string (ofL (qb c)))/\Below w.heap.size w w':=by
 have hc:=c.toNat_lt
 have hq:=Lib.hid (show qb c = [92,120,Nh (c.toNat / 16),Nh (c.toNat % 16)] by rw[qb,hg];rfl)
 have hb:=NM hg
 have x1:=zjP c
 have x2:=zkf c
 have y1:=zkC c
 have y2:=zle c
 have y3:=zlr c
 have hcv:=fun w2:World=>Gs (P:=Tryz.prog) w2 [92,120,Nh (c.toNat / 16),Nh (c.toNat % 16)] 157 5 9 Tryz.underlying157 Tryz.underlying5 Tryz.underlying9 #[.int .u8 92,.int .u8 120,.int .u8 (Nh (c.toNat / 16)).toNat,.int .u8 (Nh (c.toNat % 16)).toNat] rfl (0,0) w2.heap.size 4 4 rfl rfl
 clear hg
 rcases hb with h | ⟨h0,h⟩ | ⟨h0,h1,h2⟩ | ⟨h0,h1,h2,h3⟩
 ·go_enter Tryz.func156,Tryz.ntmps156
  go_wp2
  go_still_tail 6,(by kernel_rfl)
  change wpList _ _ _ _ _ w.drew
  obtain ⟨w2,hw2,hsz⟩:∃ w2:World,Below w.heap.size w w2/\w2=w.drew:=⟨_,(Below.refl _ _).drew,rfl⟩
  rw[←hsz]
  clear hsz
  go_wp2
  go_ret
  exact ⟨by rw[hq.out];rfl,hw2.alloc hw2.size _⟩
 ·go_enter Tryz.func156,Tryz.ntmps156
  go_wp2
  go_still_tail 6,(by kernel_rfl)
  change wpList _ _ _ _ _ w.drew
  obtain ⟨w2,hw2,hsz⟩:∃ w2:World,Below w.heap.size w w2/\w2=w.drew:=⟨_,(Below.refl _ _).drew,rfl⟩
  rw[←hsz]
  clear hsz
  go_wp2
  go_ret
  exact ⟨by rw[hq.out];rfl,hw2.alloc hw2.size _⟩
 ·go_enter Tryz.func156,Tryz.ntmps156
  go_wp2
  go_still_tail 6,(by kernel_rfl)
  change wpList _ _ _ _ _ w.drew
  obtain ⟨w2,hw2,hsz⟩:∃ w2:World,Below w.heap.size w w2/\w2=w.drew:=⟨_,(Below.refl _ _).drew,rfl⟩
  rw[←hsz]
  clear hsz
  go_wp2
  go_ret
  exact ⟨by rw[hq.out];rfl,hw2.alloc hw2.size _⟩
 ·go_enter Tryz.func156,Tryz.ntmps156
  go_wp2
  go_still_tail 6,(by kernel_rfl)
  change wpList _ _ _ _ _ w.drew
  obtain ⟨w2,hw2,hsz⟩:∃ w2:World,Below w.heap.size w w2/\w2=w.drew:=⟨_,(Below.refl _ _).drew,rfl⟩
  rw[←hsz]
  clear hsz
  go_wp2
  go_ret
  exact ⟨by rw[hq.out];rfl,hw2.alloc hw2.size _⟩
theorem NX (c:UInt8) (w:World) :
  Calls Tryz.prog 156 #[.int .u8 c.toNat] w fun e w'=>e = .returned (.string (ofL (qb c)))/\Below w.heap.size w w':=by
 cases h:good c with
 | true=>exact MZ c w h
 | false=>exact yl c w h
end QuoteWalk
end Go.Proofs.YtiblepfehggicaaGreatDoor
end
section
namespace Go.Proofs
open Go.Shelf
def Tryz.zlays166_ren:Go.Shelf.Ren:=⟨fun | 166=>118 | 240=>159 | 276=>194 | n=>n,fun | 0=>0 | 3=>3 | 4=>4 | 9=>9 | 20=>20 | 37=>157 | 70=>156 | 72=>159 | 75=>162 | 164=>233 | 80=>165 | 5=>5 | n=>n,fun | n=>n⟩
theorem Tryz.zlays166:Go.Proofs.Lays.n166 Tryz.prog Tryz.zlays166_ren:={
 mixed:=by kernel_rfl
 f166:=Tryz.func118.trans (congrArg some (by kernel_rfl))
 f240:=Tryz.func159.trans (congrArg some (by kernel_rfl))
 f276:=Tryz.func194.trans (congrArg some (by kernel_rfl))
 t0:=Tryz.underlying0
 a0:=Tryz.isAgg0
 z0:=Tryz.sizeOf0
 v0:=Tryz.zeroValue0
 t3:=Tryz.underlying3
 a3:=Tryz.isAgg3
 z3:=Tryz.sizeOf3
 v3:=Tryz.zeroValue3
 t4:=Tryz.underlying4
 a4:=Tryz.isAgg4
 z4:=Tryz.sizeOf4
 v4:=Tryz.zeroValue4
 t9:=Tryz.underlying9
 a9:=Tryz.isAgg9
 z9:=Tryz.sizeOf9
 v9:=Tryz.zeroValue9
 t20:=Tryz.underlying20
 a20:=Tryz.isAgg20
 z20:=Tryz.sizeOf20
 v20:=Tryz.zeroValue20
 t37:=Tryz.underlying157
 a37:=Tryz.isAgg157
 z37:=Tryz.sizeOf157
 v37:=Tryz.zeroValue157
 t70:=Tryz.underlying156
 a70:=Tryz.isAgg156
 z70:=Tryz.sizeOf156
 v70:=Tryz.zeroValue156
 t72:=Tryz.underlying159
 a72:=Tryz.isAgg159
 z72:=Tryz.sizeOf159
 v72:=Tryz.zeroValue159
 t75:=Tryz.underlying162
 a75:=Tryz.isAgg162
 z75:=Tryz.sizeOf162
 v75:=Tryz.zeroValue162
 t164:=Tryz.underlying233
 a164:=Tryz.isAgg233
 z164:=Tryz.sizeOf233
 v164:=Tryz.zeroValue233 }
theorem Tryz.zBuilder_Extra_166:Builder.Extra Tryz.prog Tryz.zlays166_ren:={
 sizeBuilder:=by kernel_rfl
 liesBuilder:=by kernel_rfl
 t5:=Tryz.underlying5
 a5:=Tryz.isAgg5
 z5:=Tryz.sizeOf5
 v5:=Tryz.zeroValue5
 infoByte:=by kernel_rfl
 cellsByte:=by kernel_rfl
 sizeByte:=by kernel_rfl
 neB5:=by decide }
def Tryz.zlays167_ren:Go.Shelf.Ren:=⟨fun | 167=>191 | 240=>159 | 276=>194 | n=>n,fun | 0=>0 | 4=>4 | 5=>5 | 9=>9 | 20=>20 | 37=>157 | 70=>156 | 72=>159 | 75=>162 | 164=>233 | 80=>165 | n=>n,fun | n=>n⟩
theorem Tryz.zlays167:Go.Proofs.Lays.n167 Tryz.prog Tryz.zlays167_ren:={
 mixed:=by kernel_rfl
 f167:=Tryz.func191.trans (congrArg some (by kernel_rfl))
 f240:=Tryz.func159.trans (congrArg some (by kernel_rfl))
 f276:=Tryz.func194.trans (congrArg some (by kernel_rfl))
 t0:=Tryz.underlying0
 a0:=Tryz.isAgg0
 z0:=Tryz.sizeOf0
 v0:=Tryz.zeroValue0
 t4:=Tryz.underlying4
 a4:=Tryz.isAgg4
 z4:=Tryz.sizeOf4
 v4:=Tryz.zeroValue4
 t5:=Tryz.underlying5
 a5:=Tryz.isAgg5
 z5:=Tryz.sizeOf5
 v5:=Tryz.zeroValue5
 t9:=Tryz.underlying9
 a9:=Tryz.isAgg9
 z9:=Tryz.sizeOf9
 v9:=Tryz.zeroValue9
 t20:=Tryz.underlying20
 a20:=Tryz.isAgg20
 z20:=Tryz.sizeOf20
 v20:=Tryz.zeroValue20
 t37:=Tryz.underlying157
 a37:=Tryz.isAgg157
 z37:=Tryz.sizeOf157
 v37:=Tryz.zeroValue157
 t70:=Tryz.underlying156
 a70:=Tryz.isAgg156
 z70:=Tryz.sizeOf156
 v70:=Tryz.zeroValue156
 t72:=Tryz.underlying159
 a72:=Tryz.isAgg159
 z72:=Tryz.sizeOf159
 v72:=Tryz.zeroValue159
 t75:=Tryz.underlying162
 a75:=Tryz.isAgg162
 z75:=Tryz.sizeOf162
 v75:=Tryz.zeroValue162
 t164:=Tryz.underlying233
 a164:=Tryz.isAgg233
 z164:=Tryz.sizeOf233
 v164:=Tryz.zeroValue233 }
theorem Tryz.zBuilder_Extra_167:Builder.Extra Tryz.prog Tryz.zlays167_ren:={
 sizeBuilder:=by kernel_rfl
 liesBuilder:=by kernel_rfl
 t5:=Tryz.underlying5
 a5:=Tryz.isAgg5
 z5:=Tryz.sizeOf5
 v5:=Tryz.zeroValue5
 infoByte:=by kernel_rfl
 cellsByte:=by kernel_rfl
 sizeByte:=by kernel_rfl
 neB5:=by decide }
open Go.RowKit in
theorem Tryz.zBuilder_WriteByte (B b:Nat) (bs:List Value) (c:Int) (w:World) (h:Lib.IsBuilder 159 5 B b bs w) (hlen:bs.length+1<=140737488355328) (hBw:B<=w.heap.size) :
  Calls Tryz.prog 191 #[.pointer (some ⟨b,0,none⟩),.int .u8 c] w fun e w'=>e = .returned .nilIface/\(Lib.BuilderAt 159 5 B b (.pointer (some ⟨b,0,none⟩)) (bs++[.int .u8 c]) w'/\Below B w w'):=Any.Builder_WriteByte Tryz.zlays167 Tryz.zBuilder_Extra_167 B b bs c w h hlen hBw
open Go.RowKit in
theorem Tryz.zBuilder_WriteString (B b:Nat) (bs:List Value) (s:ByteArray) (w:World) (h:Lib.IsBuilder 159 5 B b bs w) (hlen:bs.length+s.size<=140737488355328) (hBw:B<=w.heap.size) :
  Calls Tryz.prog 118 #[.pointer (some ⟨b,0,none⟩),.string s] w fun e w'=>e = .returned (.tuple #[.int .i64 s.size,.nilIface])/\(Lib.BuilderAt 159 5 B b (.pointer (some ⟨b,0,none⟩)) (bs++Lib.strCells s) w'/\Below B w w'):=Any.Builder_WriteString Tryz.zlays166 Tryz.zBuilder_Extra_166 B b bs s w h hlen hBw
end Go.Proofs
end
section
namespace Go.Proofs.YtiblepfehggicaaGreatDoor
open Go.RowKit
namespace QuoteWalk
open Kit QuotePlain
def pre (s:ByteArray) (k:Nat):Bs:=34 :: mid ((toL s).take k)
theorem uh (s:ByteArray):pre s 0 = [34]:=by simp[pre,mid]
theorem vX (s:ByteArray) (k:Nat) (h:k<s.size) {c:UInt8} (hc:s[k]=c):pre s (k+1)=pre s k++qb c:=by
 have h':k<(toL s).length:=by rw[Gm];exact h
 have:(toL s)[k]=c:=hc
 rw[pre,pre,List.take_succ_eq_append_getElem h',this,mid,mid,List.flatMap_append]
 simp
theorem zd8 (s:ByteArray) (k:Nat) (h:s.size<=k):pre s k++[34]=qF (toL s):=by
 rw[pre,List.take_of_length_le (by rw[Gm];exact h)];rfl
theorem zkc (c:UInt8):(qb c).length<=4:=by unfold qb;split<;>simp
theorem mid_len (l:Bs):(mid l).length<=4*l.length:=by
 induction l with
 | nil=>simp[mid]
 | cons c l ih =>
  have:=zkc c
  simp only[mid,List.flatMap_cons,List.length_append,List.length_cons]at ih ⊢
  omega
theorem zfM (s:ByteArray) (k:Nat):(pre s k).length<=1+4*k:=by
 have h1:=mid_len ((toL s).take k)
 have h2:((toL s).take k).length<=k:=List.length_take_le _ _
 simp only[pre,List.length_cons];omega
theorem refQuote_walk (s:ByteArray) (w:World) (hs:s.size<=1099511627776) :
  Calls Tryz.prog 110 #[.string s] w fun e w'=>e = .returned (.string (ofL (qF (toL s))))/\Below w.heap.size w w':=by
 go_enter Tryz.func110,Tryz.ntmps110
 go_wp2
 go_loopw [3,4] (fun o i wr=>∃ k:Nat,k<=s.size/\i = .int .i64 k/\o = .string (ofL (pre s k))/\Below w.heap.size w wr) (fun _ i _=>s.size-(intOf i).toNat)
 case atStart=>exact ⟨0,by omega,rfl,by rw[uh];rfl,Below.refl _ _⟩
 case round =>
  obtain ⟨k,hk,rfl,rfl,hB⟩:=hrel
  have hpl:=zfM s k
  have hps:(ofL (pre s k)).size<=1+4*k:=by rw[ZP];exact hpl
  by_cases hlt:k<s.size
  ·obtain ⟨c,hc⟩:∃ c,s[k]=c:=⟨_,rfl⟩
   have hsn:=Lib.hid (vX s k hlt hc)
   have hql:=zkc c
   have hqs:(ofL (qb c)).size<=4:=by rw[ZP];exact hql
   generalize hp:ofL (pre s k)=p at *
   have hp':=Lib.hid hp
   clear hp
   go_wp2_with fail
   refine (NX c _).mono ?_
   rintro e w1 ⟨rfl,hb1⟩
   generalize hq:ofL (qb c)=q at *
   have hq':=Lib.hid hq
   clear hq
   go_wp2
   go_roundw
   case rel=>exact ⟨k+1,by omega,by go_num,by rw[hsn.out,←HO,hp'.out,hq'.out],hB.trans (hb1.mono hB.size)⟩
   case measure=>simp[intOf];omega
  ·have hfin:=Lib.hid (zd8 s k (by omega))
   generalize hp:ofL (pre s k)=p at *
   have hp':=Lib.hid hp
   clear hp
   go_wp2
   go_ret
   exact ⟨Hr (by rw[←hp'.out,←hfin.out,←HO];rfl),hB⟩
def Bld (B:Nat) (l:Bs) (w:World):Prop:=Lib.BuilderAt 159 5 B B (.pointer (some ⟨B,0,none⟩)) (Lib.byteCells l) w
theorem Bld.alloc {B:Nat} {l:Bs} {w:World} (h:Bld B l w) (o:Obj):Bld B l (w.alloc o):=by
 obtain ⟨h1,v,h2,h3,h4⟩:=h
 refine ⟨h1,v,?_,h3.alloc o,h4⟩
 rw[Lib.alloc_old _ _ _ (Array.getElem?_eq_some_iff.1 h2).1];exact h2
theorem Bld.drew {B:Nat} {l:Bs} {w:World} (h:Bld B l w):Bld B l w.drew:=h
theorem Mn (B:Nat) (l:Bs) (c:UInt8) (w:World) (h:Bld B l w) (hl:l.length<140737488355328) (hB:B<=w.heap.size) :
  Calls Tryz.prog 191 #[.pointer (some ⟨B,0,none⟩),.int .u8 (c.toNat:Int)] w fun e w'=>e = .returned .nilIface/\Bld B (l++[c]) w'/\Below B w w':=by
 refine (Tryz.zBuilder_WriteByte B B (Lib.byteCells l) c.toNat w (.inr h) (by rw[Lib.byteCells_length];omega) hB).mono ?_
 rintro e w' ⟨h1,h2,h3⟩
 exact ⟨h1,by rw[Bld,Lib.byteCells_append];exact h2,h3⟩
theorem za4 (w:World) (c:UInt8) :
  Calls Tryz.prog 191 #[.pointer (some ⟨w.heap.size,0,none⟩),.int .u8 (c.toNat:Int)] (w.alloc (.cells #[.pointer none,.slice none 0 0] 159 (0,0))) fun e w'=>e = .returned .nilIface/\Bld w.heap.size [c] w'/\Below w.heap.size w w':=by
 refine (Tryz.zBuilder_WriteByte w.heap.size w.heap.size [] c.toNat _ (Lib.fresh_isBuilder _ _ w) (by decide) (by simp)).mono ?_
 rintro e w' ⟨h1,h2,h3⟩
 exact ⟨h1,h2,((Below.refl _ _).alloc (Nat.le_refl _) _).trans h3⟩
theorem yc (B:Nat) (l:Bs) (x:ByteArray) (w:World) (h:Bld B l w) (hl:l.length+x.size<=140737488355328) (hB:B<=w.heap.size) :
  Calls Tryz.prog 118 #[.pointer (some ⟨B,0,none⟩),.string x] w fun e w'=>e = .returned (.tuple #[.int .i64 x.size,.nilIface])/\Bld B (l++toL x) w'/\Below B w w':=by
 refine (Tryz.zBuilder_WriteString B B (Lib.byteCells l) x w (.inr h) (by rw[Lib.byteCells_length];omega) hB).mono ?_
 rintro e w' ⟨h1,h2,h3⟩
 exact ⟨h1,by rw[Bld,Lib.byteCells_append];exact h2,h3⟩
theorem zcV (B:Nat) (l:Bs) (w:World) (h:Bld B l w) (hB:B<=w.heap.size) :
  Calls Tryz.prog 119 #[.pointer (some ⟨B,0,none⟩)] w fun e w'=>e = .returned (.string (ofL l))/\Below B w w':=
 Tryz.Builder_String_any B B l w (.inr h) hB
theorem zoP (c:UInt8):bits BinOp.and IntKind.u8 (c.toNat:Int) 15=(c.toNat:Int) % 16:=by
 have:=zcZ (p:=fun c=>decide (bits BinOp.and IntKind.u8 (c.toNat:Int) 15=(c.toNat:Int) % 16)) (by decide +kernel) c
 exact of_decide_eq_true this
theorem quote_walk (s:ByteArray) (w:World) (hs:s.size<=1099511627776) :
  Calls Tryz.prog 154 #[.string s] w fun e w'=>e = .returned (.string (ofL (qF (toL s))))/\Below w.heap.size w w':=by
 go_enter Tryz.func154,Tryz.ntmps154
 go_wp2_with fail
 refine (za4 w 34).mono ?_
 rintro e w1 ⟨rfl,hI1,hB1⟩
 go_wp2_with fail
 go_loopw [9] (fun i wr=>∃ k:Nat,k<=s.size/\i = .int .i64 k/\Bld w.heap.size (pre s k) wr/\Below w.heap.size w wr) (fun i _=>s.size-(intOf i).toNat)
 case atStart=>exact ⟨0,by omega,rfl,by rw[uh];exact hI1,hB1⟩
 case round =>
  obtain ⟨k,hk,rfl,hI,hB⟩:=hrel
  clear hI1 hB1
  have hpl:=zfM s k
  by_cases hlt:k<s.size
  ·obtain ⟨c,hc⟩:∃ c,s[k]=c:=⟨_,rfl⟩
   have hsn:=Lib.hid (vX s k hlt hc)
   go_wp2_with fail
   refine (ye c _).mono ?_
   rintro e w' ⟨rfl,rfl⟩
   cases hg:good c with
   | true =>
    have hq:=Lib.hid (show qb c = [c] by rw[qb,if_pos hg])
    clear hg
    go_wp2_with fail
    refine (Mn w.heap.size (pre s k) c _ hI (by omega) hB.size).mono ?_
    rintro e w2 ⟨rfl,hI2,hb2⟩
    go_wp2
    go_roundw
    case rel=>exact ⟨k+1,by omega,by go_num,by rw[hsn.out,hq.out];exact hI2,hB.trans hb2⟩
    case measure=>simp[intOf];omega
   | false =>
    have hq:=Lib.hid (show qb c = [92,120,Nh (c.toNat / 16),Nh (c.toNat % 16)] by rw[qb,hg];rfl)
    clear hg
    have x1:=zjP c
    have x2:=zkf c
    have x3:=zoP c
    have hcv:=fun w2:World=>Gs (P:=Tryz.prog) w2 [92,120,Nh (c.toNat / 16),Nh (c.toNat % 16)] 157 5 9 Tryz.underlying157 Tryz.underlying5 Tryz.underlying9 #[.int .u8 92,.int .u8 120,.int .u8 (Nh (c.toNat / 16)).toNat,.int .u8 (Nh (c.toNat % 16)).toNat] rfl (0,0) w2.heap.size 4 4 rfl rfl
    go_wp2_with fail
    go_still_tail 6,(by kernel_rfl)
    change wpList _ _ _ _ _ wr.drew
    obtain ⟨w2,hw2,hI2,hsz⟩:∃ w2:World,Below w.heap.size w w2/\Bld w.heap.size (pre s k) w2/\w2=wr.drew:=⟨_,hB.drew,hI.drew,rfl⟩
    rw[←hsz]
    clear hsz hI hB
    go_wp2_with fail
    refine (yc w.heap.size (pre s k) (ofL [92,120,Nh (c.toNat / 16),Nh (c.toNat % 16)]) _ (hI2.alloc _) (by rw[ZP];show _+4<=_;omega) (by have:=hw2.size;simp;omega)).mono ?_
    rintro e w3 ⟨rfl,hI3,hb3⟩
    rw[zdw]at hI3
    have hB3:=(hw2.alloc hw2.size _).trans hb3
    clear hb3 hcv x1 x2 x3 hI2
    go_wp2
    go_roundw
    case rel=>exact ⟨k+1,by omega,by go_num,by rw[hsn.out,hq.out];exact hI3,hB3⟩
    case measure=>simp[intOf];omega
  ·have hfin:=Lib.hid (zd8 s k (by omega))
   go_wp2_with fail
   refine (Mn w.heap.size (pre s k) 34 _ hI (by omega) hB.size).mono ?_
   rintro e w2 ⟨rfl,hI2,hb2⟩
   go_wp2_with fail
   refine (zcV w.heap.size _ _ hI2 (hB.trans hb2).size).mono ?_
   rintro e w3 ⟨rfl,hb3⟩
   go_wp2
   go_ret
   exact ⟨Hr (by rw[hfin.out]),(hB.trans hb2).trans hb3⟩
end QuoteWalk
end Go.Proofs.YtiblepfehggicaaGreatDoor
end
namespace Go.Proofs.YtiblepfehggicaaGreatDoor.Vcg
section
open Go.RowKit
def phr:List (List UInt8):=[[],[99,97,110,110,111,116,32,99,114,101,97,116,101,32,100,105,114,101,99,116,111,114,121,32,65,58,32,69],[99,97,110,110,111,116,32,114,101,109,111,118,101,32,65,58,32,69],[114,101,102,117,115,105,110,103,32,116,111,32,114,101,109,111,118,101,32,34,46,34,32,111,114,32,34,46,46,34,32,100,105,114,101,99,116,111,114,121,58,32,115,107,105,112,112,105,110,103,32,65],[105,116,32,105,115,32,100,97,110,103,101,114,111,117,115,32,116,111,32,111,112,101,114,97,116,101,32,114,101,99,117,114,115,105,118,101,108,121,32,111,110,32,65],[102,97,105,108,101,100,32,116,111,32,97,99,99,101,115,115,32,65,58,32,69],[65,58,32,104,97,114,100,32,108,105,110,107,32,110,111,116,32,97,108,108,111,119,101,100,32,102,111,114,32,100,105,114,101,99,116,111,114,121],[102,97,105,108,101,100,32,116,111,32,99,114,101,97,116,101,32,104,97,114,100,32,108,105,110,107,32,66,58,32,69],[102,97,105,108,101,100,32,116,111,32,99,114,101,97,116,101,32,115,121,109,98,111,108,105,99,32,108,105,110,107,32,66,58,32,69],[65,32,97,110,100,32,66,32,97,114,101,32,116,104,101,32,115,97,109,101,32,102,105,108,101],[116,97,114,103,101,116,32,65,32,105,115,32,110,111,116,32,97,32,100,105,114,101,99,116,111,114,121],[99,97,110,110,111,116,32,115,116,97,116,32,65,58,32,69],[99,97,110,110,111,116,32,111,118,101,114,119,114,105,116,101,32,110,111,110,45,100,105,114,101,99,116,111,114,121,32,66,32,119,105,116,104,32,100,105,114,101,99,116,111,114,121,32,65],[99,97,110,110,111,116,32,111,118,101,114,119,114,105,116,101,32,100,105,114,101,99,116,111,114,121,32,66,32,119,105,116,104,32,110,111,110,45,100,105,114,101,99,116,111,114,121,32,65],[99,97,110,110,111,116,32,109,111,118,101,32,65,32,116,111,32,97,32,115,117,98,100,105,114,101,99,116,111,114,121,32,111,102,32,105,116,115,101,108,102,44,32,66],[99,97,110,110,111,116,32,109,111,118,101,32,65,32,116,111,32,66,58,32,69],[45,114,32,110,111,116,32,115,112,101,99,105,102,105,101,100,59,32,111,109,105,116,116,105,110,103,32,100,105,114,101,99,116,111,114,121,32,65],[99,97,110,110,111,116,32,99,114,101,97,116,101,32,114,101,103,117,108,97,114,32,102,105,108,101,32,66,58,32,69],[99,97,110,110,111,116,32,99,114,101,97,116,101,32,115,121,109,98,111,108,105,99,32,108,105,110,107,32,66,58,32,69],[99,97,110,110,111,116,32,99,111,112,121,32,97,32,100,105,114,101,99,116,111,114,121,44,32,65,44,32,105,110,116,111,32,105,116,115,101,108,102,44,32,66],[110,111,116,32,119,114,105,116,105,110,103,32,116,104,114,111,117,103,104,32,100,97,110,103,108,105,110,103,32,115,121,109,108,105,110,107,32,66],[101,114,114,111,114,32,119,114,105,116,105,110,103,32,66,58,32,69],[99,97,110,110,111,116,32,99,114,101,97,116,101,32,100,105,114,101,99,116,111,114,121,32,66,58,32,69]]
def zrs:List (List UInt8):=[[83,117,99,99,101,115,115],[78,111,32,115,117,99,104,32,102,105,108,101,32,111,114,32,100,105,114,101,99,116,111,114,121],[70,105,108,101,32,101,120,105,115,116,115],[78,111,116,32,97,32,100,105,114,101,99,116,111,114,121],[73,115,32,97,32,100,105,114,101,99,116,111,114,121],[68,105,114,101,99,116,111,114,121,32,110,111,116,32,101,109,112,116,121],[84,111,111,32,109,97,110,121,32,108,101,118,101,108,115,32,111,102,32,115,121,109,98,111,108,105,99,32,108,105,110,107,115],[70,105,108,101,32,110,97,109,101,32,116,111,111,32,108,111,110,103],[78,111,32,115,112,97,99,101,32,108,101,102,116,32,111,110,32,100,101,118,105,99,101],[73,110,118,97,108,105,100,32,97,114,103,117,109,101,110,116],[68,101,118,105,99,101,32,111,114,32,114,101,115,111,117,114,99,101,32,98,117,115,121],[79,112,101,114,97,116,105,111,110,32,110,111,116,32,112,101,114,109,105,116,116,101,100],[77,97,108,102,111,114,109,101,100,32,116,101,120,116],[78,111,116,32,105,110,32,116,104,101,32,115,116,97,115,104]]
def zpr:List Value:=[.string ⟨#[]⟩,.string ⟨#[]⟩,.int .i64 0,.string ⟨#[109,107,100,105,114]⟩,.string ⟨#[112]⟩,.int .i64 1,.string ⟨#[114,109]⟩,.string ⟨#[82,100,102,114]⟩,.int .i64 1,.string ⟨#[108,110]⟩,.string ⟨#[84,102,110,115]⟩,.int .i64 1,.string ⟨#[109,118]⟩,.string ⟨#[84,102,110]⟩,.int .i64 2,.string ⟨#[99,112]⟩,.string ⟨#[80,82,84,102,110,114]⟩,.int .i64 2]
def G2:zr:=fun g=>if g=2 then some (phr.map C.str) else if g=1 then some (zpr.map zE) else if g=3 then some (zrs.map C.str) else none
theorem zo0:G2 2=some [.str [],.str [99,97,110,110,111,116,32,99,114,101,97,116,101,32,100,105,114,101,99,116,111,114,121,32,65,58,32,69],.str [99,97,110,110,111,116,32,114,101,109,111,118,101,32,65,58,32,69],.str [114,101,102,117,115,105,110,103,32,116,111,32,114,101,109,111,118,101,32,34,46,34,32,111,114,32,34,46,46,34,32,100,105,114,101,99,116,111,114,121,58,32,115,107,105,112,112,105,110,103,32,65],.str [105,116,32,105,115,32,100,97,110,103,101,114,111,117,115,32,116,111,32,111,112,101,114,97,116,101,32,114,101,99,117,114,115,105,118,101,108,121,32,111,110,32,65],.str [102,97,105,108,101,100,32,116,111,32,97,99,99,101,115,115,32,65,58,32,69],.str [65,58,32,104,97,114,100,32,108,105,110,107,32,110,111,116,32,97,108,108,111,119,101,100,32,102,111,114,32,100,105,114,101,99,116,111,114,121],.str [102,97,105,108,101,100,32,116,111,32,99,114,101,97,116,101,32,104,97,114,100,32,108,105,110,107,32,66,58,32,69],.str [102,97,105,108,101,100,32,116,111,32,99,114,101,97,116,101,32,115,121,109,98,111,108,105,99,32,108,105,110,107,32,66,58,32,69],.str [65,32,97,110,100,32,66,32,97,114,101,32,116,104,101,32,115,97,109,101,32,102,105,108,101],.str [116,97,114,103,101,116,32,65,32,105,115,32,110,111,116,32,97,32,100,105,114,101,99,116,111,114,121],.str [99,97,110,110,111,116,32,115,116,97,116,32,65,58,32,69],.str [99,97,110,110,111,116,32,111,118,101,114,119,114,105,116,101,32,110,111,110,45,100,105,114,101,99,116,111,114,121,32,66,32,119,105,116,104,32,100,105,114,101,99,116,111,114,121,32,65],.str [99,97,110,110,111,116,32,111,118,101,114,119,114,105,116,101,32,100,105,114,101,99,116,111,114,121,32,66,32,119,105,116,104,32,110,111,110,45,100,105,114,101,99,116,111,114,121,32,65],.str [99,97,110,110,111,116,32,109,111,118,101,32,65,32,116,111,32,97,32,115,117,98,100,105,114,101,99,116,111,114,121,32,111,102,32,105,116,115,101,108,102,44,32,66],.str [99,97,110,110,111,116,32,109,111,118,101,32,65,32,116,111,32,66,58,32,69],.str [45,114,32,110,111,116,32,115,112,101,99,105,102,105,101,100,59,32,111,109,105,116,116,105,110,103,32,100,105,114,101,99,116,111,114,121,32,65],.str [99,97,110,110,111,116,32,99,114,101,97,116,101,32,114,101,103,117,108,97,114,32,102,105,108,101,32,66,58,32,69],.str [99,97,110,110,111,116,32,99,114,101,97,116,101,32,115,121,109,98,111,108,105,99,32,108,105,110,107,32,66,58,32,69],.str [99,97,110,110,111,116,32,99,111,112,121,32,97,32,100,105,114,101,99,116,111,114,121,44,32,65,44,32,105,110,116,111,32,105,116,115,101,108,102,44,32,66],.str [110,111,116,32,119,114,105,116,105,110,103,32,116,104,114,111,117,103,104,32,100,97,110,103,108,105,110,103,32,115,121,109,108,105,110,107,32,66],.str [101,114,114,111,114,32,119,114,105,116,105,110,103,32,66,58,32,69],.str [99,97,110,110,111,116,32,99,114,101,97,116,101,32,100,105,114,101,99,116,111,114,121,32,66,58,32,69]]:=rfl
theorem zgR:G2 1=some [.str [],.str [],.sc (.int .i64 0),.str [109,107,100,105,114],.str [112],.sc (.int .i64 1),.str [114,109],.str [82,100,102,114],.sc (.int .i64 1),.str [108,110],.str [84,102,110,115],.sc (.int .i64 1),.str [109,118],.str [84,102,110],.sc (.int .i64 2),.str [99,112],.str [80,82,84,102,110,114],.sc (.int .i64 2)]:=rfl
theorem zls:G2 3=some [.str [83,117,99,99,101,115,115],.str [78,111,32,115,117,99,104,32,102,105,108,101,32,111,114,32,100,105,114,101,99,116,111,114,121],.str [70,105,108,101,32,101,120,105,115,116,115],.str [78,111,116,32,97,32,100,105,114,101,99,116,111,114,121],.str [73,115,32,97,32,100,105,114,101,99,116,111,114,121],.str [68,105,114,101,99,116,111,114,121,32,110,111,116,32,101,109,112,116,121],.str [84,111,111,32,109,97,110,121,32,108,101,118,101,108,115,32,111,102,32,115,121,109,98,111,108,105,99,32,108,105,110,107,115],.str [70,105,108,101,32,110,97,109,101,32,116,111,111,32,108,111,110,103],.str [78,111,32,115,112,97,99,101,32,108,101,102,116,32,111,110,32,100,101,118,105,99,101],.str [73,110,118,97,108,105,100,32,97,114,103,117,109,101,110,116],.str [68,101,118,105,99,101,32,111,114,32,114,101,115,111,117,114,99,101,32,98,117,115,121],.str [79,112,101,114,97,116,105,111,110,32,110,111,116,32,112,101,114,109,105,116,116,101,100],.str [77,97,108,102,111,114,109,101,100,32,116,101,120,116],.str [78,111,116,32,105,110,32,116,104,101,32,115,116,97,115,104]]:=rfl
attribute [push_cast] zo0 zgR zls
def Qx (k:Int):List UInt8:=if k=1 then [109,107,100,105,114] else if k=2 then [114,109] else if k=3 then [108,110] else if k=4 then [109,118] else if k=5 then [99,112] else []
def zX (k:Int):List UInt8:=if k=1 then [99,97,110,110,111,116,32,99,114,101,97,116,101,32,100,105,114,101,99,116,111,114,121,32,65,58,32,69] else if k=2 then [99,97,110,110,111,116,32,114,101,109,111,118,101,32,65,58,32,69] else if k=3 then [114,101,102,117,115,105,110,103,32,116,111,32,114,101,109,111,118,101,32,34,46,34,32,111,114,32,34,46,46,34,32,100,105,114,101,99,116,111,114,121,58,32,115,107,105,112,112,105,110,103,32,65] else if k=4 then [105,116,32,105,115,32,100,97,110,103,101,114,111,117,115,32,116,111,32,111,112,101,114,97,116,101,32,114,101,99,117,114,115,105,118,101,108,121,32,111,110,32,65] else if k=5 then [102,97,105,108,101,100,32,116,111,32,97,99,99,101,115,115,32,65,58,32,69] else if k=6 then [65,58,32,104,97,114,100,32,108,105,110,107,32,110,111,116,32,97,108,108,111,119,101,100,32,102,111,114,32,100,105,114,101,99,116,111,114,121] else if k=7 then [102,97,105,108,101,100,32,116,111,32,99,114,101,97,116,101,32,104,97,114,100,32,108,105,110,107,32,66,58,32,69] else if k=8 then [102,97,105,108,101,100,32,116,111,32,99,114,101,97,116,101,32,115,121,109,98,111,108,105,99,32,108,105,110,107,32,66,58,32,69] else if k=9 then [65,32,97,110,100,32,66,32,97,114,101,32,116,104,101,32,115,97,109,101,32,102,105,108,101] else if k=10 then [116,97,114,103,101,116,32,65,32,105,115,32,110,111,116,32,97,32,100,105,114,101,99,116,111,114,121] else if k=11 then [99,97,110,110,111,116,32,115,116,97,116,32,65,58,32,69] else if k=12 then [99,97,110,110,111,116,32,111,118,101,114,119,114,105,116,101,32,110,111,110,45,100,105,114,101,99,116,111,114,121,32,66,32,119,105,116,104,32,100,105,114,101,99,116,111,114,121,32,65] else if k=13 then [99,97,110,110,111,116,32,111,118,101,114,119,114,105,116,101,32,100,105,114,101,99,116,111,114,121,32,66,32,119,105,116,104,32,110,111,110,45,100,105,114,101,99,116,111,114,121,32,65] else if k=14 then [99,97,110,110,111,116,32,109,111,118,101,32,65,32,116,111,32,97,32,115,117,98,100,105,114,101,99,116,111,114,121,32,111,102,32,105,116,115,101,108,102,44,32,66] else if k=15 then [99,97,110,110,111,116,32,109,111,118,101,32,65,32,116,111,32,66,58,32,69] else if k=16 then [45,114,32,110,111,116,32,115,112,101,99,105,102,105,101,100,59,32,111,109,105,116,116,105,110,103,32,100,105,114,101,99,116,111,114,121,32,65] else if k=17 then [99,97,110,110,111,116,32,99,114,101,97,116,101,32,114,101,103,117,108,97,114,32,102,105,108,101,32,66,58,32,69] else if k=18 then [99,97,110,110,111,116,32,99,114,101,97,116,101,32,115,121,109,98,111,108,105,99,32,108,105,110,107,32,66,58,32,69] else if k=19 then [99,97,110,110,111,116,32,99,111,112,121,32,97,32,100,105,114,101,99,116,111,114,121,44,32,65,44,32,105,110,116,111,32,105,116,115,101,108,102,44,32,66] else if k=20 then [110,111,116,32,119,114,105,116,105,110,103,32,116,104,114,111,117,103,104,32,100,97,110,103,108,105,110,103,32,115,121,109,108,105,110,107,32,66] else if k=21 then [101,114,114,111,114,32,119,114,105,116,105,110,103,32,66,58,32,69] else if k=22 then [99,97,110,110,111,116,32,99,114,101,97,116,101,32,100,105,114,101,99,116,111,114,121,32,66,58,32,69] else []
def Ul (k:Int):List UInt8:=if k=0 then [83,117,99,99,101,115,115] else if k=1 then [78,111,32,115,117,99,104,32,102,105,108,101,32,111,114,32,100,105,114,101,99,116,111,114,121] else if k=2 then [70,105,108,101,32,101,120,105,115,116,115] else if k=3 then [78,111,116,32,97,32,100,105,114,101,99,116,111,114,121] else if k=4 then [73,115,32,97,32,100,105,114,101,99,116,111,114,121] else if k=5 then [68,105,114,101,99,116,111,114,121,32,110,111,116,32,101,109,112,116,121] else if k=6 then [84,111,111,32,109,97,110,121,32,108,101,118,101,108,115,32,111,102,32,115,121,109,98,111,108,105,99,32,108,105,110,107,115] else if k=7 then [70,105,108,101,32,110,97,109,101,32,116,111,111,32,108,111,110,103] else if k=8 then [78,111,32,115,112,97,99,101,32,108,101,102,116,32,111,110,32,100,101,118,105,99,101] else if k=9 then [73,110,118,97,108,105,100,32,97,114,103,117,109,101,110,116] else if k=10 then [68,101,118,105,99,101,32,111,114,32,114,101,115,111,117,114,99,101,32,98,117,115,121] else if k=11 then [79,112,101,114,97,116,105,111,110,32,110,111,116,32,112,101,114,109,105,116,116,101,100] else if k=12 then [77,97,108,102,111,114,109,101,100,32,116,101,120,116] else if k=13 then [78,111,116,32,105,110,32,116,104,101,32,115,116,97,115,104] else [85,110,107,110,111,119,110,32,101,114,114,111,114]
theorem ML (k:Int):Fun Tryz.prog G2 102 [.sc (.int .i64 k)] (.str (Qx k)) 0:=by
 by_cases h1:1<=k
 ·by_cases h2:k<=5
  ·have hc:k=1∨k=2∨k=3∨k=4∨k=5:=by omega
   clear h1 h2
   rcases hc with rfl | rfl | rfl | rfl | rfl
   all_goals
    refine fon Tryz.func102 ?_;dsimp only[Tryz.f102]
    push_cast -dsimp
    exact ⟨[],rfl,rfl,by simp only[Qx];push_cast -dsimp [ze,zd,CLe,zg]<;>rfl⟩
  ·have n1:¬k=1:=(by omega);have n2:¬k=2:=(by omega);have n3:¬k=3:=(by omega);have n4:¬k=4:=(by omega);have n5:¬k=5:=(by omega)
   have f1:¬k<1:=(by omega);have f2:6<=k:=(by omega);have f3:5<k:=(by omega)
   refine fon Tryz.func102 ?_;dsimp only[Tryz.f102]
   push_cast -dsimp [f1,f2,f3,n1,n2,n3,n4,n5]
   exact ⟨[],rfl,rfl,by push_cast -dsimp [ze,zd,CLe,zg]<;>simp[Qx,n1,n2,n3,n4,n5]⟩
 ·have n1:¬k=1:=(by omega);have n2:¬k=2:=(by omega);have n3:¬k=3:=(by omega);have n4:¬k=4:=(by omega);have n5:¬k=5:=(by omega)
  have f1:k<1:=by omega
  refine fon Tryz.func102 ?_;dsimp only[Tryz.f102]
  push_cast -dsimp [f1,n1,n2,n3,n4,n5]
  exact ⟨[],rfl,rfl,by push_cast -dsimp [ze,zd,CLe,zg]<;>simp[Qx,n1,n2,n3,n4,n5]⟩
theorem zeD (k:Int):Fun Tryz.prog G0 108 [.sc (.int .i64 k)] (.str (Qx k)) 0:=by
 by_cases h1:1<=k
 ·by_cases h2:k<=5
  ·have hc:k=1∨k=2∨k=3∨k=4∨k=5:=by omega
   clear h1 h2
   rcases hc with rfl | rfl | rfl | rfl | rfl
   all_goals
    refine fon Tryz.func108 ?_;dsimp only[Tryz.f108]
    push_cast -dsimp
    exact ⟨[],rfl,rfl,by simp only[Qx];push_cast -dsimp [ze,zd,CLe,zg]<;>rfl⟩
  ·have n1:¬k=1:=(by omega);have n2:¬k=2:=(by omega);have n3:¬k=3:=(by omega);have n4:¬k=4:=(by omega);have n5:¬k=5:=(by omega)
   have f1:¬k<1:=(by omega);have f2:6<=k:=(by omega);have f3:5<k:=(by omega)
   refine fon Tryz.func108 ?_;dsimp only[Tryz.f108]
   push_cast -dsimp [f1,f2,f3,n1,n2,n3,n4,n5]
   exact ⟨[],rfl,rfl,by push_cast -dsimp [ze,zd,CLe,zg]<;>simp[Qx,n1,n2,n3,n4,n5]⟩
 ·have n1:¬k=1:=(by omega);have n2:¬k=2:=(by omega);have n3:¬k=3:=(by omega);have n4:¬k=4:=(by omega);have n5:¬k=5:=(by omega)
  have f1:k<1:=by omega
  refine fon Tryz.func108 ?_;dsimp only[Tryz.f108]
  push_cast -dsimp [f1,n1,n2,n3,n4,n5]
  exact ⟨[],rfl,rfl,by push_cast -dsimp [ze,zd,CLe,zg]<;>simp[Qx,n1,n2,n3,n4,n5]⟩
theorem zaJ (k:Int):Fun Tryz.prog G2 103 [.sc (.int .i64 k)] (.str (zX k)) 0:=by
 by_cases h1:0<=k
 ·by_cases h2:k<=22
  ·have hc:k=0∨k=1∨k=2∨k=3∨k=4∨k=5∨k=6∨k=7∨k=8∨k=9∨k=10∨k=11∨k=12∨k=13∨k=14∨k=15∨k=16∨k=17∨k=18∨k=19∨k=20∨k=21∨k=22:=by omega
   clear h1 h2
   rcases hc with rfl | rfl | rfl | rfl | rfl | rfl | rfl | rfl | rfl | rfl | rfl | rfl | rfl | rfl | rfl | rfl | rfl | rfl | rfl | rfl | rfl | rfl | rfl
   all_goals
    refine fon Tryz.func103 ?_;dsimp only[Tryz.f103]
    push_cast -dsimp
    exact ⟨[],rfl,rfl,by simp only[zX];push_cast -dsimp [ze,zd,CLe,zg]<;>rfl⟩
  ·have n1:¬k=1:=(by omega);have n2:¬k=2:=(by omega);have n3:¬k=3:=(by omega);have n4:¬k=4:=(by omega);have n5:¬k=5:=(by omega);have n6:¬k=6:=(by omega);have n7:¬k=7:=(by omega);have n8:¬k=8:=(by omega);have n9:¬k=9:=(by omega);have n10:¬k=10:=(by omega);have n11:¬k=11:=(by omega);have n12:¬k=12:=(by omega);have n13:¬k=13:=(by omega);have n14:¬k=14:=(by omega);have n15:¬k=15:=(by omega);have n16:¬k=16:=(by omega);have n17:¬k=17:=(by omega);have n18:¬k=18:=(by omega);have n19:¬k=19:=(by omega);have n20:¬k=20:=(by omega);have n21:¬k=21:=(by omega);have n22:¬k=22:=(by omega)
   have f1:¬k<0:=(by omega);have f2:23<=k:=(by omega);have f3:22<k:=(by omega)
   refine fon Tryz.func103 ?_;dsimp only[Tryz.f103]
   push_cast -dsimp [f1,f2,f3,n1,n2,n3,n4,n5,n6,n7,n8,n9,n10,n11,n12,n13,n14,n15,n16,n17,n18,n19,n20,n21,n22]
   exact ⟨[],rfl,rfl,by push_cast -dsimp [ze,zd,CLe,zg]<;>simp[zX,n1,n2,n3,n4,n5,n6,n7,n8,n9,n10,n11,n12,n13,n14,n15,n16,n17,n18,n19,n20,n21,n22]⟩
 ·have n1:¬k=1:=(by omega);have n2:¬k=2:=(by omega);have n3:¬k=3:=(by omega);have n4:¬k=4:=(by omega);have n5:¬k=5:=(by omega);have n6:¬k=6:=(by omega);have n7:¬k=7:=(by omega);have n8:¬k=8:=(by omega);have n9:¬k=9:=(by omega);have n10:¬k=10:=(by omega);have n11:¬k=11:=(by omega);have n12:¬k=12:=(by omega);have n13:¬k=13:=(by omega);have n14:¬k=14:=(by omega);have n15:¬k=15:=(by omega);have n16:¬k=16:=(by omega);have n17:¬k=17:=(by omega);have n18:¬k=18:=(by omega);have n19:¬k=19:=(by omega);have n20:¬k=20:=(by omega);have n21:¬k=21:=(by omega);have n22:¬k=22:=(by omega)
  have f1:k<0:=by omega
  refine fon Tryz.func103 ?_;dsimp only[Tryz.f103]
  push_cast -dsimp [f1,n1,n2,n3,n4,n5,n6,n7,n8,n9,n10,n11,n12,n13,n14,n15,n16,n17,n18,n19,n20,n21,n22]
  exact ⟨[],rfl,rfl,by push_cast -dsimp [ze,zd,CLe,zg]<;>simp[zX,n1,n2,n3,n4,n5,n6,n7,n8,n9,n10,n11,n12,n13,n14,n15,n16,n17,n18,n19,n20,n21,n22]⟩
theorem y4 (k:Int):Fun Tryz.prog G2 155 [.sc (.int .i64 k)] (.str (Ul k)) 0:=by
 by_cases h1:0<=k
 ·by_cases h2:k<=13
  ·have hc:k=0∨k=1∨k=2∨k=3∨k=4∨k=5∨k=6∨k=7∨k=8∨k=9∨k=10∨k=11∨k=12∨k=13:=by omega
   clear h1 h2
   rcases hc with rfl | rfl | rfl | rfl | rfl | rfl | rfl | rfl | rfl | rfl | rfl | rfl | rfl | rfl
   all_goals
    refine fon Tryz.func155 ?_;dsimp only[Tryz.f155]
    push_cast -dsimp
    exact ⟨[],rfl,rfl,by simp only[Ul];push_cast -dsimp [ze,zd,CLe,zg]<;>rfl⟩
  ·have n0:¬k=0:=(by omega);have n1:¬k=1:=(by omega);have n2:¬k=2:=(by omega);have n3:¬k=3:=(by omega);have n4:¬k=4:=(by omega);have n5:¬k=5:=(by omega);have n6:¬k=6:=(by omega);have n7:¬k=7:=(by omega);have n8:¬k=8:=(by omega);have n9:¬k=9:=(by omega);have n10:¬k=10:=(by omega);have n11:¬k=11:=(by omega);have n12:¬k=12:=(by omega);have n13:¬k=13:=(by omega)
   have f1:¬k<0:=(by omega);have f2:14<=k:=(by omega);have f3:13<k:=(by omega)
   refine fon Tryz.func155 ?_;dsimp only[Tryz.f155]
   push_cast -dsimp [f1,f2,f3,n0,n1,n2,n3,n4,n5,n6,n7,n8,n9,n10,n11,n12,n13]
   exact ⟨[],rfl,rfl,by push_cast -dsimp [ze,zd,CLe,zg]<;>simp[Ul,n0,n1,n2,n3,n4,n5,n6,n7,n8,n9,n10,n11,n12,n13]⟩
 ·have n0:¬k=0:=(by omega);have n1:¬k=1:=(by omega);have n2:¬k=2:=(by omega);have n3:¬k=3:=(by omega);have n4:¬k=4:=(by omega);have n5:¬k=5:=(by omega);have n6:¬k=6:=(by omega);have n7:¬k=7:=(by omega);have n8:¬k=8:=(by omega);have n9:¬k=9:=(by omega);have n10:¬k=10:=(by omega);have n11:¬k=11:=(by omega);have n12:¬k=12:=(by omega);have n13:¬k=13:=(by omega)
  have f1:k<0:=by omega
  refine fon Tryz.func155 ?_;dsimp only[Tryz.f155]
  push_cast -dsimp [f1,n0,n1,n2,n3,n4,n5,n6,n7,n8,n9,n10,n11,n12,n13]
  exact ⟨[],rfl,rfl,by push_cast -dsimp [ze,zd,CLe,zg]<;>simp[Ul,n0,n1,n2,n3,n4,n5,n6,n7,n8,n9,n10,n11,n12,n13]⟩
theorem xr (k:Int):Fun Tryz.prog G0 111 [.sc (.int .i64 k)] (.str (Ul k)) 0:=by
 by_cases h1:0<=k
 ·by_cases h2:k<=13
  ·have hc:k=0∨k=1∨k=2∨k=3∨k=4∨k=5∨k=6∨k=7∨k=8∨k=9∨k=10∨k=11∨k=12∨k=13:=by omega
   clear h1 h2
   rcases hc with rfl | rfl | rfl | rfl | rfl | rfl | rfl | rfl | rfl | rfl | rfl | rfl | rfl | rfl
   all_goals
    refine fon Tryz.func111 ?_;dsimp only[Tryz.f111]
    push_cast -dsimp
    exact ⟨[],rfl,rfl,by simp only[Ul];push_cast -dsimp [ze,zd,CLe,zg]<;>rfl⟩
  ·have n0:¬k=0:=(by omega);have n1:¬k=1:=(by omega);have n2:¬k=2:=(by omega);have n3:¬k=3:=(by omega);have n4:¬k=4:=(by omega);have n5:¬k=5:=(by omega);have n6:¬k=6:=(by omega);have n7:¬k=7:=(by omega);have n8:¬k=8:=(by omega);have n9:¬k=9:=(by omega);have n10:¬k=10:=(by omega);have n11:¬k=11:=(by omega);have n12:¬k=12:=(by omega);have n13:¬k=13:=(by omega)
   have f1:¬k<0:=(by omega);have f2:14<=k:=(by omega);have f3:13<k:=(by omega)
   refine fon Tryz.func111 ?_;dsimp only[Tryz.f111]
   push_cast -dsimp [f1,f2,f3,n0,n1,n2,n3,n4,n5,n6,n7,n8,n9,n10,n11,n12,n13]
   exact ⟨[],rfl,rfl,by push_cast -dsimp [ze,zd,CLe,zg]<;>simp[Ul,n0,n1,n2,n3,n4,n5,n6,n7,n8,n9,n10,n11,n12,n13]⟩
 ·have n0:¬k=0:=(by omega);have n1:¬k=1:=(by omega);have n2:¬k=2:=(by omega);have n3:¬k=3:=(by omega);have n4:¬k=4:=(by omega);have n5:¬k=5:=(by omega);have n6:¬k=6:=(by omega);have n7:¬k=7:=(by omega);have n8:¬k=8:=(by omega);have n9:¬k=9:=(by omega);have n10:¬k=10:=(by omega);have n11:¬k=11:=(by omega);have n12:¬k=12:=(by omega);have n13:¬k=13:=(by omega)
  have f1:k<0:=by omega
  refine fon Tryz.func111 ?_;dsimp only[Tryz.f111]
  push_cast -dsimp [f1,n0,n1,n2,n3,n4,n5,n6,n7,n8,n9,n10,n11,n12,n13]
  exact ⟨[],rfl,rfl,by push_cast -dsimp [ze,zd,CLe,zg]<;>simp[Ul,n0,n1,n2,n3,n4,n5,n6,n7,n8,n9,n10,n11,n12,n13]⟩
open QuotePlain in
theorem NH (l:List UInt8) (hl:l.length<=1000000):Fun Tryz.prog G0 154 [.str l] (.str (qF l)) 0:=by
 refine Fun.wrap (by kernel_rfl) fun R vs h=>?_
 obtain ⟨v1,us1,rfl,h1,h⟩:=zf.1 h
 rw[zl]at h
 subst h
 rw[z8]at h1
 subst h1
 refine (QuoteWalk.quote_walk ⟨l.toArray⟩ R.w (by simp[ByteArray.size];omega)).mono ?_
 rintro e w' ⟨rfl,hb⟩
 exact ⟨_,rfl,hb,fun R' _=>z8.2 (by simp[Kit.ofL,Kit.toL])⟩
open QuotePlain in
theorem HR (l:List UInt8) (hl:l.length<=1000000):Fun Tryz.prog G0 110 [.str l] (.str (qF l)) 0:=by
 refine Fun.wrap (by kernel_rfl) fun R vs h=>?_
 obtain ⟨v1,us1,rfl,h1,h⟩:=zf.1 h
 rw[zl]at h
 subst h
 rw[z8]at h1
 subst h1
 refine (QuoteWalk.refQuote_walk ⟨l.toArray⟩ R.w (by simp[ByteArray.size];omega)).mono ?_
 rintro e w' ⟨rfl,hb⟩
 exact ⟨_,rfl,hb,fun R' _=>z8.2 (by simp[Kit.ofL,Kit.toL])⟩
end
section
open Go.RowKit
theorem Fun.res {P:Program} {G:zr} {f:FuncId} {args:List C} {r r':C} {n:Nat} (h:Fun P G f args r n) (e:r=r'):Fun P G f args r' n:=e▸h
theorem xA.glob0 {P:Program} {G':zr} {f:FuncId} {args:List C} {bx bx':List (List C)} {q:Nat} {r:C} {n:Nat} (h:xA P G0 f args bx q r bx' n):xA P G' f args bx q r bx' n:=
 ⟨h.1,fun R L vs hg=>h.2 R L vs fun g cs e=>by cases e⟩
theorem xz.glob0 {P:Program} {G':zr} {f:FuncId} {first cap:List C} {bx items:List (List C)} (h:xz P G0 f first cap bx items):xz P G' f first cap bx items:=
 ⟨h.1,fun l st J R L us vs hg=>h.2 l st J R L us vs fun g cs e=>by cases e⟩
def JT (c:UInt8):List UInt8->List (List UInt8)
 | []=>[[]]
 | b :: l=>if b=c then [] :: JT c l else match JT c l with
  | []=>[[b]]
  | x :: r=>(b :: x) :: r
theorem UC (c:UInt8):∀ l:List UInt8,Lib.indexByte l c<0->JT c l = [l]
 | [],_=>rfl
 | b :: l,h=>by
  unfold Lib.indexByte at h
  by_cases hb:b=c
  ·subst hb;simp at h
  ·have hb':(b==c)=false:=by simpa using hb
   rw[hb']at h
   simp only[Bool.false_eq_true,if_false]at h
   have hl:Lib.indexByte l c<0:=by
    split at h
    ·rename_i g;have:=beq_iff_eq.1 g;omega
    ·omega
   unfold JT
   rw[if_neg hb,UC c l hl]
theorem U3 (c:UInt8):∀ l:List UInt8,-1<=Lib.indexByte l c
 | []=>Int.le_refl _
 | b :: l=>by
  have:=U3 c l
  unfold Lib.indexByte
  split
  ·decide
  ·split
   ·decide
   ·omega
theorem Mg (c:UInt8):∀ (l:List UInt8) (i:Nat),Lib.indexByte l c=(i:Int)->i<l.length/\JT c l=l.take i :: JT c (l.drop (i+1))
 | [],i,h=>by
  have h:(-1:Int)=(i:Int):=h
  omega
 | b :: l,i,h=>by
  unfold Lib.indexByte at h
  by_cases hb:b=c
  ·subst hb
   simp at h
   obtain rfl:i=0:=by omega
   refine ⟨by simp,?_⟩
   conv=>lhs;unfold JT
   simp
  ·have hb':(b==c)=false:=by simpa using hb
   rw[hb']at h
   simp only[Bool.false_eq_true,if_false]at h
   split at h
   ·omega
   ·rename_i g
    have g':Lib.indexByte l c≠-1:=by simpa using g
    have hg:=U3 c l
    obtain ⟨j,rfl⟩:∃ j,i=j+1:=⟨i-1,by omega⟩
    have hj:Lib.indexByte l c=(j:Int):=by omega
    obtain ⟨h1,h2⟩:=Mg c l j hj
    refine ⟨by simp;omega,?_⟩
    conv=>lhs;unfold JT
    rw[if_neg hb,h2]
    simp
theorem xC (c:UInt8) (l:List UInt8):(JT c l).length<=l.length+1:=by
 induction l with
 | nil=>simp[JT]
 | cons b l ih =>
  unfold JT
  split
  ·simp;omega
  ·split
   ·simp
   ·rename_i x r h
    rw[h]at ih
    simp at ih ⊢;omega
theorem zby (c:UInt8) (l:List UInt8):Fun Tryz.prog G0 186 [.str l,.str [c]] (.sc (.int .i64 (Lib.indexByte l c))) 0:=by
 refine Fun.wrap (by kernel_rfl) fun R vs h=>?_
 obtain ⟨v1,us1,rfl,h1,h⟩:=zf.1 h
 obtain ⟨v2,us2,rfl,h2,h⟩:=zf.1 h
 rw[zl]at h
 subst h
 rw[z8]at h1 h2
 subst h1 h2
 refine (Tryz.strings_Index_one ⟨l.toArray⟩ c R.w).mono ?_
 rintro e w' ⟨rfl,rfl⟩
 exact ⟨_,rfl,Below.refl _ _,fun R' _=>zq.2 (by simp)⟩
theorem xh (c:UInt8) (s:List UInt8) (hs:s.length<=1000000):xz Tryz.prog G0 184 [] [.ptr 1 0,.ptr 0 0,.ptr 2 0] [[.str s],[.str [c]],[.sc (.int .i64 0)]] (jq (JT c s)):=by
 refine foI (fun _=>[]) Tryz.func184 ?_;dsimp only[Tryz.f184]
 intro l sf
 push_cast -dsimp
 refine loop (fun x:List UInt8×Nat=>⟨[(0,.sc (.func (.yield l) #[] #[])),(1,.ptr 1 0),(2,.ptr 0 0),(3,.ptr 2 0)],[[.str x.1],[.str [c]],[.sc (.int .i64 0)]],0,x.2⟩)
  (fun x=>x.1.length<=1000000/\(∃ done,JT c s=done++JT c x.1/\done.length=x.2)/\∀ j,j<x.2->sf j=false) (fun x=>x.1.length) (s,0) ⟨hs,⟨[],rfl,rfl⟩,fun j hj=>by omega⟩ ?_ ?_
 ·refine JP.mk [] rfl rfl (Nat.zero_le _) rfl ?_ ?_<;>push_cast -dsimp [ze,zd,CLe,zg]<;>omega
 ·rintro ⟨r,k⟩ hx
  simp only at hx ⊢
  have hr:=hx.1
  have hsf:=hx.2.2
  obtain ⟨done,hd,hdl⟩:=hx.2.1
  clear hx
  push_cast -dsimp
  refine call (zby c r) ?_
  push_cast -dsimp
  by_cases hi:Lib.indexByte r c<0
  ·push_cast -dsimp [hi]
   have hk:(jq (JT c s))[k]?=some [.str r]:=by
    rw[hd,UC c r hi];simp[←hdl]
   rw[hk]
   push_cast -dsimp
   refine ⟨by push_cast -dsimp [ze,zd,CLe,zg],hsf,?_⟩
   cases hk2:sf k with
   | true=>exact .inr ⟨Nat.succ_pos k,hk2⟩
   | false =>
    refine .inl ⟨?_,fun j (hj:j<k+1)=>?_⟩
    ·rw[hd,UC c r hi];simp[hdl]
    ·rcases Nat.lt_or_ge j k with g | g
     ·exact hsf j g
     ·rw[show j=k by omega];exact hk2
  ·have hg:=U3 c r
   obtain ⟨i,hii⟩:∃ i:Nat,Lib.indexByte r c=(i:Int):=⟨(Lib.indexByte r c).toNat,by omega⟩
   obtain ⟨hir,hsp⟩:=Mg c r i hii
   have hk:(jq (JT c s))[k]?=some [.str (r.take i)]:=by
    rw[hd,hsp];simp[←hdl]
   rw[hii]at hi ⊢
   push_cast -dsimp [hi]
   rw[hk]
   push_cast -dsimp
   refine ⟨by omega,by omega,by push_cast -dsimp [ze,zd,CLe,zg],hsf,br (fun hk2=>?_) (fun hk2=>?_)⟩
   ·push_cast -dsimp
    exact .inr ⟨Nat.succ_pos k,hk2⟩
   ·push_cast -dsimp
    refine ⟨by omega,by omega,(r.drop (i+1),k+1),⟨by simp;omega,⟨done++[r.take i],by rw[hd,hsp];simp,by simp[hdl]⟩,fun j (hj:j<k+1)=>?_⟩,by simp;omega,JP.mk [] rfl rfl (Nat.zero_le _) rfl ?_ ?_⟩
    ·rcases Nat.lt_or_ge j k with g | g
     ·exact hsf j g
     ·rw[show j=k by omega];exact hk2
    ·push_cast -dsimp [ze,zd,CLe,zg]
    ·push_cast -dsimp [ze,zd,CLe,zg]
theorem HX (c:UInt8) (s:List UInt8):xA Tryz.prog G0 152 [.str s,.str [c],.sc (.int .i64 0)] [] 0 (.clo (.func 184) [] [.ptr 1 0,.ptr 0 0,.ptr 2 0]) [[.str s],[.str [c]],[.sc (.int .i64 0)]] 0:=by
 refine foB (fun _=>[]) Tryz.func152 ?_;dsimp only[Tryz.f152]
 push_cast -dsimp
 exact ⟨[],rfl,rfl,by push_cast -dsimp [ze,zd,CLe,zg],by push_cast -dsimp [ze,zd,CLe,zg]⟩
theorem GY (c:UInt8) (s:List UInt8):xA Tryz.prog G0 104 [.str s,.str [c]] [] 0 (.clo (.func 184) [] [.ptr 1 0,.ptr 0 0,.ptr 2 0]) [[.str s],[.str [c]],[.sc (.int .i64 0)]] 0:=by
 refine foB (fun _=>[]) Tryz.func104 ?_;dsimp only[Tryz.f104]
 push_cast -dsimp
 refine yB [] [] (HX c s) rfl (by simp) (by simp) (fun i hi=>by cases hi) (by push_cast -dsimp) rfl ?_
 push_cast -dsimp
 exact ⟨[],rfl,rfl,by push_cast -dsimp [ze,zd,CLe,zg],by push_cast -dsimp [ze,zd,CLe,zg]⟩
end
section
open CA CB
open Go.RowKit QuotePlain
def zo (l:List UInt8):List UInt8:=Lib.trimRightS l [58,44]
theorem zft (l:List UInt8):(zo l).length<=l.length:=by
 unfold zo Lib.trimRightS
 rw[List.length_reverse]
 have:=(List.dropWhile_sublist (([58,44]:List UInt8).contains ·) (l:=l.reverse)).length_le
 rw[List.length_reverse]at this
 exact this
theorem zhI (l:List UInt8) (h0:l≠[]) (hl:l.length<=1000000):Fun Tryz.prog G0 153 [.str l,.str [58,44]] (.str (zo l)) 0:=by
 refine Fun.wrap (by kernel_rfl) fun R vs h=>?_
 obtain ⟨v1,us1,rfl,h1,h⟩:=zf.1 h
 obtain ⟨v2,us2,rfl,h2,h⟩:=zf.1 h
 rw[zl]at h
 subst h
 rw[z8]at h1 h2
 subst h1 h2
 have hpos:=List.length_pos_iff.2 h0
 refine (Any.strings_TrimRight_set Tryz.lays162 Hz (by kernel_rfl) ⟨l.toArray⟩ ⟨#[58,44]⟩ R.w (by decide) (by simpa [ByteArray.size] using hpos) (by simp[ByteArray.size];omega) (by decide) (fun j b hb=>?_)).mono ?_
 ·match j,hb with
  | 0,hb=>cases hb;decide
  | 1,hb=>cases hb;decide
  | j+2,hb=>simp at hb
 ·rintro e w' ⟨rfl,rfl⟩
  exact ⟨_,rfl,((Below.refl _ _).alloc (Nat.le_refl _) _).alloc (by simp) _,fun R' _=>z8.2 (by simp[zo])⟩
def zi (w qa qb m:List UInt8):List UInt8:=
 if zo w = [65] then qa++w.drop (zo w).length else if zo w = [66] then qb++w.drop (zo w).length else if zo w = [69] then m++w.drop (zo w).length else w
theorem J7 (l:List UInt8):(qF l).length<=4*l.length+2:=by
 have:=QuoteWalk.mid_len l
 simp only[qF,List.length_cons,List.length_append,List.length_nil]
 omega
theorem Gf (e:Int):(Ul e).length<=100:=by
 have key:∀ (c:Prop) [Decidable c] (x y:List UInt8),x.length<=100->y.length<=100->(if c then x else y).length<=100:=fun c _ x y hx hy=>by
  by_cases h:c
  ·rw[if_pos h];exact hx
  ·rw[if_neg h];exact hy
 unfold Ul
 repeat' (first | decide | refine key _ _ _ (by decide) ?_)
theorem zcz (w a b:List UInt8) (e:Int) (ha:a.length<=1000) (hb:b.length<=1000):(zi w (qF a) (qF b) (Ul e)).length<=w.length+5000:=by
 have h1:=J7 a
 have h2:=J7 b
 have h3:=Gf e
 unfold zi
 repeat' split
 all_goals (try simp only[List.length_append,List.length_drop]);omega
theorem zjg (w a b:List UInt8) (e:Int) (h0:w≠[]) (hw:w.length<=1000) (ha:a.length<=1000) (hb:b.length<=1000):Fun Tryz.prog G2 105 [.str w,.str a,.str b,.sc (.int .i64 e)] (.str (zi w (qF a) (qF b) (Ul e))) 0:=by
 have h1:=(zhI w h0 (by omega)).glob0 (G':=G2)
 have h2:=(NH a (by omega)).glob0 (G':=G2)
 have h3:=(NH b (by omega)).glob0 (G':=G2)
 have h4:=y4 e
 have hl:=zft w
 have l1:=J7 a
 have l2:=J7 b
 have l3:=Gf e
 by_cases hA:zo w = [65]
 ·refine fon Tryz.func105 ?_;dsimp only[Tryz.f105]
  push_cast -dsimp
  refine cl (h1) ?_;push_cast -dsimp
  repeat refine an ?_
  push_cast -dsimp [hA]
  refine cl (h2) ?_;push_cast -dsimp
  repeat refine an ?_
  exact ⟨[],rfl,rfl,by push_cast -dsimp [ze,zd,CLe,zg]<;>simp[zi,hA]⟩
 ·by_cases hB:zo w = [66]
  ·have hA':¬([66]:List UInt8) = [65]:=by decide
   refine fon Tryz.func105 ?_;dsimp only[Tryz.f105]
   push_cast -dsimp
   refine cl (h1) ?_;push_cast -dsimp
   repeat refine an ?_
   push_cast -dsimp [hB,hA']
   refine cl (h3) ?_;push_cast -dsimp
   repeat refine an ?_
   exact ⟨[],rfl,rfl,by push_cast -dsimp [ze,zd,CLe,zg]<;>simp[zi,hB]⟩
  ·by_cases hE:zo w = [69]
   ·have hA':¬([69]:List UInt8) = [65]:=by decide
    have hB':¬([69]:List UInt8) = [66]:=by decide
    refine fon Tryz.func105 ?_;dsimp only[Tryz.f105]
    push_cast -dsimp
    refine cl (h1) ?_;push_cast -dsimp
    repeat refine an ?_
    push_cast -dsimp [hE,hA',hB']
    refine cl (h4) ?_;push_cast -dsimp
    repeat refine an ?_
    exact ⟨[],rfl,rfl,by push_cast -dsimp [ze,zd,CLe,zg]<;>simp[zi,hE]⟩
   ·refine fon Tryz.func105 ?_;dsimp only[Tryz.f105]
    push_cast -dsimp
    refine cl (h1) ?_;push_cast -dsimp
    repeat refine an ?_
    push_cast -dsimp [hA,hB,hE]
    exact ⟨[],rfl,rfl,by push_cast -dsimp [ze,zd,CLe,zg]<;>simp[zi,hA,hB,hE]⟩
theorem zjp (xs:List (List UInt8)) (hx:xs.length<=1000001) (hl:(Lib.join xs [58,32]).length<=100000000):Fun Tryz.prog G0 106 [.sl 1 (jq xs)] (.str (Lib.join xs [58,32])) 0:=by
 refine fon Tryz.func106 ?_;dsimp only[Tryz.f106]
 push_cast -dsimp
 refine cl (Gx xs [58,32] hx hl) ?_;push_cast -dsimp
 exact dn
end
section
open CA CB
open Go.RowKit QuotePlain
def Qv (k:Int) (qa qb m:List UInt8):List UInt8:=if k=1 then [99,97,110,110,111,116,32,99,114,101,97,116,101,32,100,105,114,101,99,116,111,114,121,32]++qa++[58,32]++m else if k=2 then [99,97,110,110,111,116,32,114,101,109,111,118,101,32]++qa++[58,32]++m else if k=3 then [114,101,102,117,115,105,110,103,32,116,111,32,114,101,109,111,118,101,32,34,46,34,32,111,114,32,34,46,46,34,32,100,105,114,101,99,116,111,114,121,58,32,115,107,105,112,112,105,110,103,32]++qa else if k=4 then [105,116,32,105,115,32,100,97,110,103,101,114,111,117,115,32,116,111,32,111,112,101,114,97,116,101,32,114,101,99,117,114,115,105,118,101,108,121,32,111,110,32]++qa else if k=5 then [102,97,105,108,101,100,32,116,111,32,97,99,99,101,115,115,32]++qa++[58,32]++m else if k=6 then qa++[58,32,104,97,114,100,32,108,105,110,107,32,110,111,116,32,97,108,108,111,119,101,100,32,102,111,114,32,100,105,114,101,99,116,111,114,121] else if k=7 then [102,97,105,108,101,100,32,116,111,32,99,114,101,97,116,101,32,104,97,114,100,32,108,105,110,107,32]++qb++[58,32]++m else if k=8 then [102,97,105,108,101,100,32,116,111,32,99,114,101,97,116,101,32,115,121,109,98,111,108,105,99,32,108,105,110,107,32]++qb++[58,32]++m else if k=9 then qa++[32,97,110,100,32]++qb++[32,97,114,101,32,116,104,101,32,115,97,109,101,32,102,105,108,101] else if k=10 then [116,97,114,103,101,116,32]++qa++[32,105,115,32,110,111,116,32,97,32,100,105,114,101,99,116,111,114,121] else if k=11 then [99,97,110,110,111,116,32,115,116,97,116,32]++qa++[58,32]++m else if k=12 then [99,97,110,110,111,116,32,111,118,101,114,119,114,105,116,101,32,110,111,110,45,100,105,114,101,99,116,111,114,121,32]++qb++[32,119,105,116,104,32,100,105,114,101,99,116,111,114,121,32]++qa else if k=13 then [99,97,110,110,111,116,32,111,118,101,114,119,114,105,116,101,32,100,105,114,101,99,116,111,114,121,32]++qb++[32,119,105,116,104,32,110,111,110,45,100,105,114,101,99,116,111,114,121,32]++qa else if k=14 then [99,97,110,110,111,116,32,109,111,118,101,32]++qa++[32,116,111,32,97,32,115,117,98,100,105,114,101,99,116,111,114,121,32,111,102,32,105,116,115,101,108,102,44,32]++qb else if k=15 then [99,97,110,110,111,116,32,109,111,118,101,32]++qa++[32,116,111,32]++qb++[58,32]++m else if k=16 then [45,114,32,110,111,116,32,115,112,101,99,105,102,105,101,100,59,32,111,109,105,116,116,105,110,103,32,100,105,114,101,99,116,111,114,121,32]++qa else if k=17 then [99,97,110,110,111,116,32,99,114,101,97,116,101,32,114,101,103,117,108,97,114,32,102,105,108,101,32]++qb++[58,32]++m else if k=18 then [99,97,110,110,111,116,32,99,114,101,97,116,101,32,115,121,109,98,111,108,105,99,32,108,105,110,107,32]++qb++[58,32]++m else if k=19 then [99,97,110,110,111,116,32,99,111,112,121,32,97,32,100,105,114,101,99,116,111,114,121,44,32]++qa++[44,32,105,110,116,111,32,105,116,115,101,108,102,44,32]++qb else if k=20 then [110,111,116,32,119,114,105,116,105,110,103,32,116,104,114,111,117,103,104,32,100,97,110,103,108,105,110,103,32,115,121,109,108,105,110,107,32]++qb else if k=21 then [101,114,114,111,114,32,119,114,105,116,105,110,103,32]++qb++[58,32]++m else if k=22 then [99,97,110,110,111,116,32,99,114,101,97,116,101,32,100,105,114,101,99,116,111,114,121,32]++qb++[58,32]++m else []
theorem QI (k:Int) (h:¬(1<=k/\k<=22)):zX k = []:=by
 have n1:¬k=1:=by omega
 have n2:¬k=2:=by omega
 have n3:¬k=3:=by omega
 have n4:¬k=4:=by omega
 have n5:¬k=5:=by omega
 have n6:¬k=6:=by omega
 have n7:¬k=7:=by omega
 have n8:¬k=8:=by omega
 have n9:¬k=9:=by omega
 have n10:¬k=10:=by omega
 have n11:¬k=11:=by omega
 have n12:¬k=12:=by omega
 have n13:¬k=13:=by omega
 have n14:¬k=14:=by omega
 have n15:¬k=15:=by omega
 have n16:¬k=16:=by omega
 have n17:¬k=17:=by omega
 have n18:¬k=18:=by omega
 have n19:¬k=19:=by omega
 have n20:¬k=20:=by omega
 have n21:¬k=21:=by omega
 have n22:¬k=22:=by omega
 simp only[zX,n1,n2,n3,n4,n5,n6,n7,n8,n9,n10,n11,n12,n13,n14,n15,n16,n17,n18,n19,n20,n21,n22,if_false]
theorem Nc (k:Int) (qa qb m:List UInt8) (h:¬(1<=k/\k<=22)):Qv k qa qb m = []:=by
 have n1:¬k=1:=by omega
 have n2:¬k=2:=by omega
 have n3:¬k=3:=by omega
 have n4:¬k=4:=by omega
 have n5:¬k=5:=by omega
 have n6:¬k=6:=by omega
 have n7:¬k=7:=by omega
 have n8:¬k=8:=by omega
 have n9:¬k=9:=by omega
 have n10:¬k=10:=by omega
 have n11:¬k=11:=by omega
 have n12:¬k=12:=by omega
 have n13:¬k=13:=by omega
 have n14:¬k=14:=by omega
 have n15:¬k=15:=by omega
 have n16:¬k=16:=by omega
 have n17:¬k=17:=by omega
 have n18:¬k=18:=by omega
 have n19:¬k=19:=by omega
 have n20:¬k=20:=by omega
 have n21:¬k=21:=by omega
 have n22:¬k=22:=by omega
 simp only[Qv,n1,n2,n3,n4,n5,n6,n7,n8,n9,n10,n11,n12,n13,n14,n15,n16,n17,n18,n19,n20,n21,n22,if_false]
theorem MP (k:Int):zX k = []∨((∀ x∈JT 32 (zX k),x≠[]/\x.length<=100)/\(zX k).length<=100):=by
 by_cases h:1<=k/\k<=22
 ·refine .inr ?_
  have hc:k=1∨k=2∨k=3∨k=4∨k=5∨k=6∨k=7∨k=8∨k=9∨k=10∨k=11∨k=12∨k=13∨k=14∨k=15∨k=16∨k=17∨k=18∨k=19∨k=20∨k=21∨k=22:=by omega
  clear h
  rcases hc with rfl | rfl | rfl | rfl | rfl | rfl | rfl | rfl | rfl | rfl | rfl | rfl | rfl | rfl | rfl | rfl | rfl | rfl | rfl | rfl | rfl | rfl<;>exact ⟨by decide +kernel,by decide +kernel⟩
 ·exact .inl (QI k h)
theorem zjD (k:Int) (qa qb m:List UInt8) (h:1<=k/\k<=22):Lib.join ((JT 32 (zX k)).map fun w=>zi w qa qb m) [32]=Qv k qa qb m:=by
 have hc:k=1∨k=2∨k=3∨k=4∨k=5∨k=6∨k=7∨k=8∨k=9∨k=10∨k=11∨k=12∨k=13∨k=14∨k=15∨k=16∨k=17∨k=18∨k=19∨k=20∨k=21∨k=22:=by omega
 rcases hc with rfl | rfl | rfl | rfl | rfl | rfl | rfl | rfl | rfl | rfl | rfl | rfl | rfl | rfl | rfl | rfl | rfl | rfl | rfl | rfl | rfl | rfl
 ·have e1:JT 32 (zX 1) = [[99,97,110,110,111,116],[99,114,101,97,116,101],[100,105,114,101,99,116,111,114,121],[65,58],[69]]:=by decide +kernel
  have s0:zi [99,97,110,110,111,116] qa qb m = [99,97,110,110,111,116]:=by simp only[zi,show zo [99,97,110,110,111,116] = [99,97,110,110,111,116] by decide +kernel];rfl
  have s1:zi [99,114,101,97,116,101] qa qb m = [99,114,101,97,116,101]:=by simp only[zi,show zo [99,114,101,97,116,101] = [99,114,101,97,116,101] by decide +kernel];rfl
  have s2:zi [100,105,114,101,99,116,111,114,121] qa qb m = [100,105,114,101,99,116,111,114,121]:=by simp only[zi,show zo [100,105,114,101,99,116,111,114,121] = [100,105,114,101,99,116,111,114,121] by decide +kernel];rfl
  have s3:zi [65,58] qa qb m=qa++[58]:=by simp only[zi,show zo [65,58] = [65] by decide +kernel];rfl
  have s4:zi [69] qa qb m=m++[]:=by simp only[zi,show zo [69] = [69] by decide +kernel];rfl
  rw[e1]
  simp only[List.map_cons,List.map_nil,s0,s1,s2,s3,s4]
  simp[Lib.join,List.intercalate,List.intersperse,Qv]
 ·have e1:JT 32 (zX 2) = [[99,97,110,110,111,116],[114,101,109,111,118,101],[65,58],[69]]:=by decide +kernel
  have s0:zi [99,97,110,110,111,116] qa qb m = [99,97,110,110,111,116]:=by simp only[zi,show zo [99,97,110,110,111,116] = [99,97,110,110,111,116] by decide +kernel];rfl
  have s1:zi [114,101,109,111,118,101] qa qb m = [114,101,109,111,118,101]:=by simp only[zi,show zo [114,101,109,111,118,101] = [114,101,109,111,118,101] by decide +kernel];rfl
  have s2:zi [65,58] qa qb m=qa++[58]:=by simp only[zi,show zo [65,58] = [65] by decide +kernel];rfl
  have s3:zi [69] qa qb m=m++[]:=by simp only[zi,show zo [69] = [69] by decide +kernel];rfl
  rw[e1]
  simp only[List.map_cons,List.map_nil,s0,s1,s2,s3]
  simp[Lib.join,List.intercalate,List.intersperse,Qv]
 ·have e1:JT 32 (zX 3) = [[114,101,102,117,115,105,110,103],[116,111],[114,101,109,111,118,101],[34,46,34],[111,114],[34,46,46,34],[100,105,114,101,99,116,111,114,121,58],[115,107,105,112,112,105,110,103],[65]]:=by decide +kernel
  have s0:zi [114,101,102,117,115,105,110,103] qa qb m = [114,101,102,117,115,105,110,103]:=by simp only[zi,show zo [114,101,102,117,115,105,110,103] = [114,101,102,117,115,105,110,103] by decide +kernel];rfl
  have s1:zi [116,111] qa qb m = [116,111]:=by simp only[zi,show zo [116,111] = [116,111] by decide +kernel];rfl
  have s2:zi [114,101,109,111,118,101] qa qb m = [114,101,109,111,118,101]:=by simp only[zi,show zo [114,101,109,111,118,101] = [114,101,109,111,118,101] by decide +kernel];rfl
  have s3:zi [34,46,34] qa qb m = [34,46,34]:=by simp only[zi,show zo [34,46,34] = [34,46,34] by decide +kernel];rfl
  have s4:zi [111,114] qa qb m = [111,114]:=by simp only[zi,show zo [111,114] = [111,114] by decide +kernel];rfl
  have s5:zi [34,46,46,34] qa qb m = [34,46,46,34]:=by simp only[zi,show zo [34,46,46,34] = [34,46,46,34] by decide +kernel];rfl
  have s6:zi [100,105,114,101,99,116,111,114,121,58] qa qb m = [100,105,114,101,99,116,111,114,121,58]:=by simp only[zi,show zo [100,105,114,101,99,116,111,114,121,58] = [100,105,114,101,99,116,111,114,121] by decide +kernel];rfl
  have s7:zi [115,107,105,112,112,105,110,103] qa qb m = [115,107,105,112,112,105,110,103]:=by simp only[zi,show zo [115,107,105,112,112,105,110,103] = [115,107,105,112,112,105,110,103] by decide +kernel];rfl
  have s8:zi [65] qa qb m=qa++[]:=by simp only[zi,show zo [65] = [65] by decide +kernel];rfl
  rw[e1]
  simp only[List.map_cons,List.map_nil,s0,s1,s2,s3,s4,s5,s6,s7,s8]
  simp[Lib.join,List.intercalate,List.intersperse,Qv]
 ·have e1:JT 32 (zX 4) = [[105,116],[105,115],[100,97,110,103,101,114,111,117,115],[116,111],[111,112,101,114,97,116,101],[114,101,99,117,114,115,105,118,101,108,121],[111,110],[65]]:=by decide +kernel
  have s0:zi [105,116] qa qb m = [105,116]:=by simp only[zi,show zo [105,116] = [105,116] by decide +kernel];rfl
  have s1:zi [105,115] qa qb m = [105,115]:=by simp only[zi,show zo [105,115] = [105,115] by decide +kernel];rfl
  have s2:zi [100,97,110,103,101,114,111,117,115] qa qb m = [100,97,110,103,101,114,111,117,115]:=by simp only[zi,show zo [100,97,110,103,101,114,111,117,115] = [100,97,110,103,101,114,111,117,115] by decide +kernel];rfl
  have s3:zi [116,111] qa qb m = [116,111]:=by simp only[zi,show zo [116,111] = [116,111] by decide +kernel];rfl
  have s4:zi [111,112,101,114,97,116,101] qa qb m = [111,112,101,114,97,116,101]:=by simp only[zi,show zo [111,112,101,114,97,116,101] = [111,112,101,114,97,116,101] by decide +kernel];rfl
  have s5:zi [114,101,99,117,114,115,105,118,101,108,121] qa qb m = [114,101,99,117,114,115,105,118,101,108,121]:=by simp only[zi,show zo [114,101,99,117,114,115,105,118,101,108,121] = [114,101,99,117,114,115,105,118,101,108,121] by decide +kernel];rfl
  have s6:zi [111,110] qa qb m = [111,110]:=by simp only[zi,show zo [111,110] = [111,110] by decide +kernel];rfl
  have s7:zi [65] qa qb m=qa++[]:=by simp only[zi,show zo [65] = [65] by decide +kernel];rfl
  rw[e1]
  simp only[List.map_cons,List.map_nil,s0,s1,s2,s3,s4,s5,s6,s7]
  simp[Lib.join,List.intercalate,List.intersperse,Qv]
 ·have e1:JT 32 (zX 5) = [[102,97,105,108,101,100],[116,111],[97,99,99,101,115,115],[65,58],[69]]:=by decide +kernel
  have s0:zi [102,97,105,108,101,100] qa qb m = [102,97,105,108,101,100]:=by simp only[zi,show zo [102,97,105,108,101,100] = [102,97,105,108,101,100] by decide +kernel];rfl
  have s1:zi [116,111] qa qb m = [116,111]:=by simp only[zi,show zo [116,111] = [116,111] by decide +kernel];rfl
  have s2:zi [97,99,99,101,115,115] qa qb m = [97,99,99,101,115,115]:=by simp only[zi,show zo [97,99,99,101,115,115] = [97,99,99,101,115,115] by decide +kernel];rfl
  have s3:zi [65,58] qa qb m=qa++[58]:=by simp only[zi,show zo [65,58] = [65] by decide +kernel];rfl
  have s4:zi [69] qa qb m=m++[]:=by simp only[zi,show zo [69] = [69] by decide +kernel];rfl
  rw[e1]
  simp only[List.map_cons,List.map_nil,s0,s1,s2,s3,s4]
  simp[Lib.join,List.intercalate,List.intersperse,Qv]
 ·have e1:JT 32 (zX 6) = [[65,58],[104,97,114,100],[108,105,110,107],[110,111,116],[97,108,108,111,119,101,100],[102,111,114],[100,105,114,101,99,116,111,114,121]]:=by decide +kernel
  have s0:zi [65,58] qa qb m=qa++[58]:=by simp only[zi,show zo [65,58] = [65] by decide +kernel];rfl
  have s1:zi [104,97,114,100] qa qb m = [104,97,114,100]:=by simp only[zi,show zo [104,97,114,100] = [104,97,114,100] by decide +kernel];rfl
  have s2:zi [108,105,110,107] qa qb m = [108,105,110,107]:=by simp only[zi,show zo [108,105,110,107] = [108,105,110,107] by decide +kernel];rfl
  have s3:zi [110,111,116] qa qb m = [110,111,116]:=by simp only[zi,show zo [110,111,116] = [110,111,116] by decide +kernel];rfl
  have s4:zi [97,108,108,111,119,101,100] qa qb m = [97,108,108,111,119,101,100]:=by simp only[zi,show zo [97,108,108,111,119,101,100] = [97,108,108,111,119,101,100] by decide +kernel];rfl
  have s5:zi [102,111,114] qa qb m = [102,111,114]:=by simp only[zi,show zo [102,111,114] = [102,111,114] by decide +kernel];rfl
  have s6:zi [100,105,114,101,99,116,111,114,121] qa qb m = [100,105,114,101,99,116,111,114,121]:=by simp only[zi,show zo [100,105,114,101,99,116,111,114,121] = [100,105,114,101,99,116,111,114,121] by decide +kernel];rfl
  rw[e1]
  simp only[List.map_cons,List.map_nil,s0,s1,s2,s3,s4,s5,s6]
  simp[Lib.join,List.intercalate,List.intersperse,Qv]
 ·have e1:JT 32 (zX 7) = [[102,97,105,108,101,100],[116,111],[99,114,101,97,116,101],[104,97,114,100],[108,105,110,107],[66,58],[69]]:=by decide +kernel
  have s0:zi [102,97,105,108,101,100] qa qb m = [102,97,105,108,101,100]:=by simp only[zi,show zo [102,97,105,108,101,100] = [102,97,105,108,101,100] by decide +kernel];rfl
  have s1:zi [116,111] qa qb m = [116,111]:=by simp only[zi,show zo [116,111] = [116,111] by decide +kernel];rfl
  have s2:zi [99,114,101,97,116,101] qa qb m = [99,114,101,97,116,101]:=by simp only[zi,show zo [99,114,101,97,116,101] = [99,114,101,97,116,101] by decide +kernel];rfl
  have s3:zi [104,97,114,100] qa qb m = [104,97,114,100]:=by simp only[zi,show zo [104,97,114,100] = [104,97,114,100] by decide +kernel];rfl
  have s4:zi [108,105,110,107] qa qb m = [108,105,110,107]:=by simp only[zi,show zo [108,105,110,107] = [108,105,110,107] by decide +kernel];rfl
  have s5:zi [66,58] qa qb m=qb++[58]:=by simp only[zi,show zo [66,58] = [66] by decide +kernel];rfl
  have s6:zi [69] qa qb m=m++[]:=by simp only[zi,show zo [69] = [69] by decide +kernel];rfl
  rw[e1]
  simp only[List.map_cons,List.map_nil,s0,s1,s2,s3,s4,s5,s6]
  simp[Lib.join,List.intercalate,List.intersperse,Qv]
 ·have e1:JT 32 (zX 8) = [[102,97,105,108,101,100],[116,111],[99,114,101,97,116,101],[115,121,109,98,111,108,105,99],[108,105,110,107],[66,58],[69]]:=by decide +kernel
  have s0:zi [102,97,105,108,101,100] qa qb m = [102,97,105,108,101,100]:=by simp only[zi,show zo [102,97,105,108,101,100] = [102,97,105,108,101,100] by decide +kernel];rfl
  have s1:zi [116,111] qa qb m = [116,111]:=by simp only[zi,show zo [116,111] = [116,111] by decide +kernel];rfl
  have s2:zi [99,114,101,97,116,101] qa qb m = [99,114,101,97,116,101]:=by simp only[zi,show zo [99,114,101,97,116,101] = [99,114,101,97,116,101] by decide +kernel];rfl
  have s3:zi [115,121,109,98,111,108,105,99] qa qb m = [115,121,109,98,111,108,105,99]:=by simp only[zi,show zo [115,121,109,98,111,108,105,99] = [115,121,109,98,111,108,105,99] by decide +kernel];rfl
  have s4:zi [108,105,110,107] qa qb m = [108,105,110,107]:=by simp only[zi,show zo [108,105,110,107] = [108,105,110,107] by decide +kernel];rfl
  have s5:zi [66,58] qa qb m=qb++[58]:=by simp only[zi,show zo [66,58] = [66] by decide +kernel];rfl
  have s6:zi [69] qa qb m=m++[]:=by simp only[zi,show zo [69] = [69] by decide +kernel];rfl
  rw[e1]
  simp only[List.map_cons,List.map_nil,s0,s1,s2,s3,s4,s5,s6]
  simp[Lib.join,List.intercalate,List.intersperse,Qv]
 ·have e1:JT 32 (zX 9) = [[65],[97,110,100],[66],[97,114,101],[116,104,101],[115,97,109,101],[102,105,108,101]]:=by decide +kernel
  have s0:zi [65] qa qb m=qa++[]:=by simp only[zi,show zo [65] = [65] by decide +kernel];rfl
  have s1:zi [97,110,100] qa qb m = [97,110,100]:=by simp only[zi,show zo [97,110,100] = [97,110,100] by decide +kernel];rfl
  have s2:zi [66] qa qb m=qb++[]:=by simp only[zi,show zo [66] = [66] by decide +kernel];rfl
  have s3:zi [97,114,101] qa qb m = [97,114,101]:=by simp only[zi,show zo [97,114,101] = [97,114,101] by decide +kernel];rfl
  have s4:zi [116,104,101] qa qb m = [116,104,101]:=by simp only[zi,show zo [116,104,101] = [116,104,101] by decide +kernel];rfl
  have s5:zi [115,97,109,101] qa qb m = [115,97,109,101]:=by simp only[zi,show zo [115,97,109,101] = [115,97,109,101] by decide +kernel];rfl
  have s6:zi [102,105,108,101] qa qb m = [102,105,108,101]:=by simp only[zi,show zo [102,105,108,101] = [102,105,108,101] by decide +kernel];rfl
  rw[e1]
  simp only[List.map_cons,List.map_nil,s0,s1,s2,s3,s4,s5,s6]
  simp[Lib.join,List.intercalate,List.intersperse,Qv]
 ·have e1:JT 32 (zX 10) = [[116,97,114,103,101,116],[65],[105,115],[110,111,116],[97],[100,105,114,101,99,116,111,114,121]]:=by decide +kernel
  have s0:zi [116,97,114,103,101,116] qa qb m = [116,97,114,103,101,116]:=by simp only[zi,show zo [116,97,114,103,101,116] = [116,97,114,103,101,116] by decide +kernel];rfl
  have s1:zi [65] qa qb m=qa++[]:=by simp only[zi,show zo [65] = [65] by decide +kernel];rfl
  have s2:zi [105,115] qa qb m = [105,115]:=by simp only[zi,show zo [105,115] = [105,115] by decide +kernel];rfl
  have s3:zi [110,111,116] qa qb m = [110,111,116]:=by simp only[zi,show zo [110,111,116] = [110,111,116] by decide +kernel];rfl
  have s4:zi [97] qa qb m = [97]:=by simp only[zi,show zo [97] = [97] by decide +kernel];rfl
  have s5:zi [100,105,114,101,99,116,111,114,121] qa qb m = [100,105,114,101,99,116,111,114,121]:=by simp only[zi,show zo [100,105,114,101,99,116,111,114,121] = [100,105,114,101,99,116,111,114,121] by decide +kernel];rfl
  rw[e1]
  simp only[List.map_cons,List.map_nil,s0,s1,s2,s3,s4,s5]
  simp[Lib.join,List.intercalate,List.intersperse,Qv]
 ·have e1:JT 32 (zX 11) = [[99,97,110,110,111,116],[115,116,97,116],[65,58],[69]]:=by decide +kernel
  have s0:zi [99,97,110,110,111,116] qa qb m = [99,97,110,110,111,116]:=by simp only[zi,show zo [99,97,110,110,111,116] = [99,97,110,110,111,116] by decide +kernel];rfl
  have s1:zi [115,116,97,116] qa qb m = [115,116,97,116]:=by simp only[zi,show zo [115,116,97,116] = [115,116,97,116] by decide +kernel];rfl
  have s2:zi [65,58] qa qb m=qa++[58]:=by simp only[zi,show zo [65,58] = [65] by decide +kernel];rfl
  have s3:zi [69] qa qb m=m++[]:=by simp only[zi,show zo [69] = [69] by decide +kernel];rfl
  rw[e1]
  simp only[List.map_cons,List.map_nil,s0,s1,s2,s3]
  simp[Lib.join,List.intercalate,List.intersperse,Qv]
 ·have e1:JT 32 (zX 12) = [[99,97,110,110,111,116],[111,118,101,114,119,114,105,116,101],[110,111,110,45,100,105,114,101,99,116,111,114,121],[66],[119,105,116,104],[100,105,114,101,99,116,111,114,121],[65]]:=by decide +kernel
  have s0:zi [99,97,110,110,111,116] qa qb m = [99,97,110,110,111,116]:=by simp only[zi,show zo [99,97,110,110,111,116] = [99,97,110,110,111,116] by decide +kernel];rfl
  have s1:zi [111,118,101,114,119,114,105,116,101] qa qb m = [111,118,101,114,119,114,105,116,101]:=by simp only[zi,show zo [111,118,101,114,119,114,105,116,101] = [111,118,101,114,119,114,105,116,101] by decide +kernel];rfl
  have s2:zi [110,111,110,45,100,105,114,101,99,116,111,114,121] qa qb m = [110,111,110,45,100,105,114,101,99,116,111,114,121]:=by simp only[zi,show zo [110,111,110,45,100,105,114,101,99,116,111,114,121] = [110,111,110,45,100,105,114,101,99,116,111,114,121] by decide +kernel];rfl
  have s3:zi [66] qa qb m=qb++[]:=by simp only[zi,show zo [66] = [66] by decide +kernel];rfl
  have s4:zi [119,105,116,104] qa qb m = [119,105,116,104]:=by simp only[zi,show zo [119,105,116,104] = [119,105,116,104] by decide +kernel];rfl
  have s5:zi [100,105,114,101,99,116,111,114,121] qa qb m = [100,105,114,101,99,116,111,114,121]:=by simp only[zi,show zo [100,105,114,101,99,116,111,114,121] = [100,105,114,101,99,116,111,114,121] by decide +kernel];rfl
  have s6:zi [65] qa qb m=qa++[]:=by simp only[zi,show zo [65] = [65] by decide +kernel];rfl
  rw[e1]
  simp only[List.map_cons,List.map_nil,s0,s1,s2,s3,s4,s5,s6]
  simp[Lib.join,List.intercalate,List.intersperse,Qv]
 ·have e1:JT 32 (zX 13) = [[99,97,110,110,111,116],[111,118,101,114,119,114,105,116,101],[100,105,114,101,99,116,111,114,121],[66],[119,105,116,104],[110,111,110,45,100,105,114,101,99,116,111,114,121],[65]]:=by decide +kernel
  have s0:zi [99,97,110,110,111,116] qa qb m = [99,97,110,110,111,116]:=by simp only[zi,show zo [99,97,110,110,111,116] = [99,97,110,110,111,116] by decide +kernel];rfl
  have s1:zi [111,118,101,114,119,114,105,116,101] qa qb m = [111,118,101,114,119,114,105,116,101]:=by simp only[zi,show zo [111,118,101,114,119,114,105,116,101] = [111,118,101,114,119,114,105,116,101] by decide +kernel];rfl
  have s2:zi [100,105,114,101,99,116,111,114,121] qa qb m = [100,105,114,101,99,116,111,114,121]:=by simp only[zi,show zo [100,105,114,101,99,116,111,114,121] = [100,105,114,101,99,116,111,114,121] by decide +kernel];rfl
  have s3:zi [66] qa qb m=qb++[]:=by simp only[zi,show zo [66] = [66] by decide +kernel];rfl
  have s4:zi [119,105,116,104] qa qb m = [119,105,116,104]:=by simp only[zi,show zo [119,105,116,104] = [119,105,116,104] by decide +kernel];rfl
  have s5:zi [110,111,110,45,100,105,114,101,99,116,111,114,121] qa qb m = [110,111,110,45,100,105,114,101,99,116,111,114,121]:=by simp only[zi,show zo [110,111,110,45,100,105,114,101,99,116,111,114,121] = [110,111,110,45,100,105,114,101,99,116,111,114,121] by decide +kernel];rfl
  have s6:zi [65] qa qb m=qa++[]:=by simp only[zi,show zo [65] = [65] by decide +kernel];rfl
  rw[e1]
  simp only[List.map_cons,List.map_nil,s0,s1,s2,s3,s4,s5,s6]
  simp[Lib.join,List.intercalate,List.intersperse,Qv]
 ·have e1:JT 32 (zX 14) = [[99,97,110,110,111,116],[109,111,118,101],[65],[116,111],[97],[115,117,98,100,105,114,101,99,116,111,114,121],[111,102],[105,116,115,101,108,102,44],[66]]:=by decide +kernel
  have s0:zi [99,97,110,110,111,116] qa qb m = [99,97,110,110,111,116]:=by simp only[zi,show zo [99,97,110,110,111,116] = [99,97,110,110,111,116] by decide +kernel];rfl
  have s1:zi [109,111,118,101] qa qb m = [109,111,118,101]:=by simp only[zi,show zo [109,111,118,101] = [109,111,118,101] by decide +kernel];rfl
  have s2:zi [65] qa qb m=qa++[]:=by simp only[zi,show zo [65] = [65] by decide +kernel];rfl
  have s3:zi [116,111] qa qb m = [116,111]:=by simp only[zi,show zo [116,111] = [116,111] by decide +kernel];rfl
  have s4:zi [97] qa qb m = [97]:=by simp only[zi,show zo [97] = [97] by decide +kernel];rfl
  have s5:zi [115,117,98,100,105,114,101,99,116,111,114,121] qa qb m = [115,117,98,100,105,114,101,99,116,111,114,121]:=by simp only[zi,show zo [115,117,98,100,105,114,101,99,116,111,114,121] = [115,117,98,100,105,114,101,99,116,111,114,121] by decide +kernel];rfl
  have s6:zi [111,102] qa qb m = [111,102]:=by simp only[zi,show zo [111,102] = [111,102] by decide +kernel];rfl
  have s7:zi [105,116,115,101,108,102,44] qa qb m = [105,116,115,101,108,102,44]:=by simp only[zi,show zo [105,116,115,101,108,102,44] = [105,116,115,101,108,102] by decide +kernel];rfl
  have s8:zi [66] qa qb m=qb++[]:=by simp only[zi,show zo [66] = [66] by decide +kernel];rfl
  rw[e1]
  simp only[List.map_cons,List.map_nil,s0,s1,s2,s3,s4,s5,s6,s7,s8]
  simp[Lib.join,List.intercalate,List.intersperse,Qv]
 ·have e1:JT 32 (zX 15) = [[99,97,110,110,111,116],[109,111,118,101],[65],[116,111],[66,58],[69]]:=by decide +kernel
  have s0:zi [99,97,110,110,111,116] qa qb m = [99,97,110,110,111,116]:=by simp only[zi,show zo [99,97,110,110,111,116] = [99,97,110,110,111,116] by decide +kernel];rfl
  have s1:zi [109,111,118,101] qa qb m = [109,111,118,101]:=by simp only[zi,show zo [109,111,118,101] = [109,111,118,101] by decide +kernel];rfl
  have s2:zi [65] qa qb m=qa++[]:=by simp only[zi,show zo [65] = [65] by decide +kernel];rfl
  have s3:zi [116,111] qa qb m = [116,111]:=by simp only[zi,show zo [116,111] = [116,111] by decide +kernel];rfl
  have s4:zi [66,58] qa qb m=qb++[58]:=by simp only[zi,show zo [66,58] = [66] by decide +kernel];rfl
  have s5:zi [69] qa qb m=m++[]:=by simp only[zi,show zo [69] = [69] by decide +kernel];rfl
  rw[e1]
  simp only[List.map_cons,List.map_nil,s0,s1,s2,s3,s4,s5]
  simp[Lib.join,List.intercalate,List.intersperse,Qv]
 ·have e1:JT 32 (zX 16) = [[45,114],[110,111,116],[115,112,101,99,105,102,105,101,100,59],[111,109,105,116,116,105,110,103],[100,105,114,101,99,116,111,114,121],[65]]:=by decide +kernel
  have s0:zi [45,114] qa qb m = [45,114]:=by simp only[zi,show zo [45,114] = [45,114] by decide +kernel];rfl
  have s1:zi [110,111,116] qa qb m = [110,111,116]:=by simp only[zi,show zo [110,111,116] = [110,111,116] by decide +kernel];rfl
  have s2:zi [115,112,101,99,105,102,105,101,100,59] qa qb m = [115,112,101,99,105,102,105,101,100,59]:=by simp only[zi,show zo [115,112,101,99,105,102,105,101,100,59] = [115,112,101,99,105,102,105,101,100,59] by decide +kernel];rfl
  have s3:zi [111,109,105,116,116,105,110,103] qa qb m = [111,109,105,116,116,105,110,103]:=by simp only[zi,show zo [111,109,105,116,116,105,110,103] = [111,109,105,116,116,105,110,103] by decide +kernel];rfl
  have s4:zi [100,105,114,101,99,116,111,114,121] qa qb m = [100,105,114,101,99,116,111,114,121]:=by simp only[zi,show zo [100,105,114,101,99,116,111,114,121] = [100,105,114,101,99,116,111,114,121] by decide +kernel];rfl
  have s5:zi [65] qa qb m=qa++[]:=by simp only[zi,show zo [65] = [65] by decide +kernel];rfl
  rw[e1]
  simp only[List.map_cons,List.map_nil,s0,s1,s2,s3,s4,s5]
  simp[Lib.join,List.intercalate,List.intersperse,Qv]
 ·have e1:JT 32 (zX 17) = [[99,97,110,110,111,116],[99,114,101,97,116,101],[114,101,103,117,108,97,114],[102,105,108,101],[66,58],[69]]:=by decide +kernel
  have s0:zi [99,97,110,110,111,116] qa qb m = [99,97,110,110,111,116]:=by simp only[zi,show zo [99,97,110,110,111,116] = [99,97,110,110,111,116] by decide +kernel];rfl
  have s1:zi [99,114,101,97,116,101] qa qb m = [99,114,101,97,116,101]:=by simp only[zi,show zo [99,114,101,97,116,101] = [99,114,101,97,116,101] by decide +kernel];rfl
  have s2:zi [114,101,103,117,108,97,114] qa qb m = [114,101,103,117,108,97,114]:=by simp only[zi,show zo [114,101,103,117,108,97,114] = [114,101,103,117,108,97,114] by decide +kernel];rfl
  have s3:zi [102,105,108,101] qa qb m = [102,105,108,101]:=by simp only[zi,show zo [102,105,108,101] = [102,105,108,101] by decide +kernel];rfl
  have s4:zi [66,58] qa qb m=qb++[58]:=by simp only[zi,show zo [66,58] = [66] by decide +kernel];rfl
  have s5:zi [69] qa qb m=m++[]:=by simp only[zi,show zo [69] = [69] by decide +kernel];rfl
  rw[e1]
  simp only[List.map_cons,List.map_nil,s0,s1,s2,s3,s4,s5]
  simp[Lib.join,List.intercalate,List.intersperse,Qv]
 ·have e1:JT 32 (zX 18) = [[99,97,110,110,111,116],[99,114,101,97,116,101],[115,121,109,98,111,108,105,99],[108,105,110,107],[66,58],[69]]:=by decide +kernel
  have s0:zi [99,97,110,110,111,116] qa qb m = [99,97,110,110,111,116]:=by simp only[zi,show zo [99,97,110,110,111,116] = [99,97,110,110,111,116] by decide +kernel];rfl
  have s1:zi [99,114,101,97,116,101] qa qb m = [99,114,101,97,116,101]:=by simp only[zi,show zo [99,114,101,97,116,101] = [99,114,101,97,116,101] by decide +kernel];rfl
  have s2:zi [115,121,109,98,111,108,105,99] qa qb m = [115,121,109,98,111,108,105,99]:=by simp only[zi,show zo [115,121,109,98,111,108,105,99] = [115,121,109,98,111,108,105,99] by decide +kernel];rfl
  have s3:zi [108,105,110,107] qa qb m = [108,105,110,107]:=by simp only[zi,show zo [108,105,110,107] = [108,105,110,107] by decide +kernel];rfl
  have s4:zi [66,58] qa qb m=qb++[58]:=by simp only[zi,show zo [66,58] = [66] by decide +kernel];rfl
  have s5:zi [69] qa qb m=m++[]:=by simp only[zi,show zo [69] = [69] by decide +kernel];rfl
  rw[e1]
  simp only[List.map_cons,List.map_nil,s0,s1,s2,s3,s4,s5]
  simp[Lib.join,List.intercalate,List.intersperse,Qv]
 ·have e1:JT 32 (zX 19) = [[99,97,110,110,111,116],[99,111,112,121],[97],[100,105,114,101,99,116,111,114,121,44],[65,44],[105,110,116,111],[105,116,115,101,108,102,44],[66]]:=by decide +kernel
  have s0:zi [99,97,110,110,111,116] qa qb m = [99,97,110,110,111,116]:=by simp only[zi,show zo [99,97,110,110,111,116] = [99,97,110,110,111,116] by decide +kernel];rfl
  have s1:zi [99,111,112,121] qa qb m = [99,111,112,121]:=by simp only[zi,show zo [99,111,112,121] = [99,111,112,121] by decide +kernel];rfl
  have s2:zi [97] qa qb m = [97]:=by simp only[zi,show zo [97] = [97] by decide +kernel];rfl
  have s3:zi [100,105,114,101,99,116,111,114,121,44] qa qb m = [100,105,114,101,99,116,111,114,121,44]:=by simp only[zi,show zo [100,105,114,101,99,116,111,114,121,44] = [100,105,114,101,99,116,111,114,121] by decide +kernel];rfl
  have s4:zi [65,44] qa qb m=qa++[44]:=by simp only[zi,show zo [65,44] = [65] by decide +kernel];rfl
  have s5:zi [105,110,116,111] qa qb m = [105,110,116,111]:=by simp only[zi,show zo [105,110,116,111] = [105,110,116,111] by decide +kernel];rfl
  have s6:zi [105,116,115,101,108,102,44] qa qb m = [105,116,115,101,108,102,44]:=by simp only[zi,show zo [105,116,115,101,108,102,44] = [105,116,115,101,108,102] by decide +kernel];rfl
  have s7:zi [66] qa qb m=qb++[]:=by simp only[zi,show zo [66] = [66] by decide +kernel];rfl
  rw[e1]
  simp only[List.map_cons,List.map_nil,s0,s1,s2,s3,s4,s5,s6,s7]
  simp[Lib.join,List.intercalate,List.intersperse,Qv]
 ·have e1:JT 32 (zX 20) = [[110,111,116],[119,114,105,116,105,110,103],[116,104,114,111,117,103,104],[100,97,110,103,108,105,110,103],[115,121,109,108,105,110,107],[66]]:=by decide +kernel
  have s0:zi [110,111,116] qa qb m = [110,111,116]:=by simp only[zi,show zo [110,111,116] = [110,111,116] by decide +kernel];rfl
  have s1:zi [119,114,105,116,105,110,103] qa qb m = [119,114,105,116,105,110,103]:=by simp only[zi,show zo [119,114,105,116,105,110,103] = [119,114,105,116,105,110,103] by decide +kernel];rfl
  have s2:zi [116,104,114,111,117,103,104] qa qb m = [116,104,114,111,117,103,104]:=by simp only[zi,show zo [116,104,114,111,117,103,104] = [116,104,114,111,117,103,104] by decide +kernel];rfl
  have s3:zi [100,97,110,103,108,105,110,103] qa qb m = [100,97,110,103,108,105,110,103]:=by simp only[zi,show zo [100,97,110,103,108,105,110,103] = [100,97,110,103,108,105,110,103] by decide +kernel];rfl
  have s4:zi [115,121,109,108,105,110,107] qa qb m = [115,121,109,108,105,110,107]:=by simp only[zi,show zo [115,121,109,108,105,110,107] = [115,121,109,108,105,110,107] by decide +kernel];rfl
  have s5:zi [66] qa qb m=qb++[]:=by simp only[zi,show zo [66] = [66] by decide +kernel];rfl
  rw[e1]
  simp only[List.map_cons,List.map_nil,s0,s1,s2,s3,s4,s5]
  simp[Lib.join,List.intercalate,List.intersperse,Qv]
 ·have e1:JT 32 (zX 21) = [[101,114,114,111,114],[119,114,105,116,105,110,103],[66,58],[69]]:=by decide +kernel
  have s0:zi [101,114,114,111,114] qa qb m = [101,114,114,111,114]:=by simp only[zi,show zo [101,114,114,111,114] = [101,114,114,111,114] by decide +kernel];rfl
  have s1:zi [119,114,105,116,105,110,103] qa qb m = [119,114,105,116,105,110,103]:=by simp only[zi,show zo [119,114,105,116,105,110,103] = [119,114,105,116,105,110,103] by decide +kernel];rfl
  have s2:zi [66,58] qa qb m=qb++[58]:=by simp only[zi,show zo [66,58] = [66] by decide +kernel];rfl
  have s3:zi [69] qa qb m=m++[]:=by simp only[zi,show zo [69] = [69] by decide +kernel];rfl
  rw[e1]
  simp only[List.map_cons,List.map_nil,s0,s1,s2,s3]
  simp[Lib.join,List.intercalate,List.intersperse,Qv]
 ·have e1:JT 32 (zX 22) = [[99,97,110,110,111,116],[99,114,101,97,116,101],[100,105,114,101,99,116,111,114,121],[66,58],[69]]:=by decide +kernel
  have s0:zi [99,97,110,110,111,116] qa qb m = [99,97,110,110,111,116]:=by simp only[zi,show zo [99,97,110,110,111,116] = [99,97,110,110,111,116] by decide +kernel];rfl
  have s1:zi [99,114,101,97,116,101] qa qb m = [99,114,101,97,116,101]:=by simp only[zi,show zo [99,114,101,97,116,101] = [99,114,101,97,116,101] by decide +kernel];rfl
  have s2:zi [100,105,114,101,99,116,111,114,121] qa qb m = [100,105,114,101,99,116,111,114,121]:=by simp only[zi,show zo [100,105,114,101,99,116,111,114,121] = [100,105,114,101,99,116,111,114,121] by decide +kernel];rfl
  have s3:zi [66,58] qa qb m=qb++[58]:=by simp only[zi,show zo [66,58] = [66] by decide +kernel];rfl
  have s4:zi [69] qa qb m=m++[]:=by simp only[zi,show zo [69] = [69] by decide +kernel];rfl
  rw[e1]
  simp only[List.map_cons,List.map_nil,s0,s1,s2,s3,s4]
  simp[Lib.join,List.intercalate,List.intersperse,Qv]
theorem Mm (f:List UInt8->List UInt8) (n:Nat):∀ xs:List (List UInt8),(∀ x∈xs,(f x).length<=n)->((xs.map f).map fun x=>x.length+1).sum<=xs.length*(n+1)
 | [],_=>by simp
 | x :: r,h=>by
  have ih:=Mm f n r fun y hy=>h y (List.mem_cons_of_mem _ hy)
  have:=h x List.mem_cons_self
  simp only[List.map_cons,List.sum_cons,List.length_cons,Nat.add_mul]
  omega
theorem zbG (xs:List (List UInt8)) (sep:List UInt8) (n:Nat) (hs:sep.length<=1) (h:(xs.map fun x=>x.length+1).sum<=n):(Lib.join xs sep).length<=n:=by
 have key:∀ xs:List (List UInt8),(Lib.join xs sep).length<=(xs.map fun x=>x.length+1).sum:=by
  intro xs
  match xs with
  | []=>simp[Lib.join]
  | [x]=>simp[Lib.join_one]
  | x :: y :: r =>
   have ih:∀ (zs:List (List UInt8)) (z:List UInt8),(Lib.join (z :: zs) sep).length<=((z :: zs).map fun x=>x.length+1).sum:=by
    intro zs
    induction zs with
    | nil=>intro z;simp[Lib.join_one]
    | cons u t iht =>
     intro z
     rw[Jd]
     have:=iht u
     simp only[List.length_append,List.map_cons,List.sum_cons]at this ⊢
     omega
   exact ih (y :: r) x
 exact Nat.le_trans (key xs) h
def YN (k w:Int) (a b:List UInt8) (e:Int):List UInt8:=
 if Qx k = [] then [] else if zX w = [] then [] else Qx k++[58,32]++Qv w (qF a) (qF b) (Ul e)
theorem M5 (k:Int):(Qx k).length<=10:=by
 have key:∀ (c:Prop) [Decidable c] (x y:List UInt8),x.length<=10->y.length<=10->(if c then x else y).length<=10:=fun c _ x y hx hy=>by
  by_cases h:c
  ·rw[if_pos h];exact hx
  ·rw[if_neg h];exact hy
 unfold Qx
 repeat' (first | decide | refine key _ _ _ (by decide) ?_)
theorem zgS (k w:Int) (a b:List UInt8) (e:Int) (ha:a.length<=1000) (hb:b.length<=1000):Fun Tryz.prog G2 60 [.sc (.int .i64 k),.sc (.int .i64 w),.str a,.str b,.sc (.int .i64 e)] (.str (YN k w a b e)) 0:=by
 have h1:=ML k
 have h2:=zaJ w
 have hnl:=M5 k
 by_cases hn:Qx k = []
 ·rw[hn]at h1
  refine fon Tryz.func60 ?_;dsimp only[Tryz.f60]
  push_cast -dsimp
  refine cl (h1) ?_;push_cast -dsimp
  refine cl (h2) ?_;push_cast -dsimp
  exact ⟨[],rfl,rfl,by push_cast -dsimp [ze,zd,CLe,zg]<;>simp[YN,hn]⟩
 by_cases hp:zX w = []
 ·rw[hp]at h2
  refine fon Tryz.func60 ?_;dsimp only[Tryz.f60]
  push_cast -dsimp
  refine cl (h1) ?_;push_cast -dsimp
  refine cl (h2) ?_;push_cast -dsimp [hn]
  exact ⟨[],rfl,rfl,by push_cast -dsimp [ze,zd,CLe,zg]<;>simp[YN,hn,hp]⟩
 obtain ⟨hws,hpl⟩:(∀ x∈JT 32 (zX w),x≠[]/\x.length<=100)/\(zX w).length<=100:=(MP w).resolve_left hp
 have hin:1<=w/\w<=22:=Classical.byContradiction fun h=>hp (QI w h)
 have hpw:=hp
 have hsay:=zjD w (qF a) (qF b) (Ul e) hin
 have hsl:=xC 32 (zX w)
 have hsum:=Mm (fun x=>zi x (qF a) (qF b) (Ul e)) 5100 (JT 32 (zX w)) fun x hx=>by
  have:=zcz x a b e ha hb
  have:=(hws x hx).2
  omega
 have hjl:=zbG ((JT 32 (zX w)).map fun x=>zi x (qF a) (qF b) (Ul e)) [32] 600000 (by decide) (by
  have:(JT 32 (zX w)).length*(5100+1)<=101*5101:=Nat.mul_le_mul_right _ (by omega)
  omega)
 have hit:=xh 32 (zX w) (by omega)
 generalize zX w=P at h2 hp hws hpl hsay hsl hsum hjl hit
 rw[hsay]at hjl
 refine fof (fun i=>if i=7 then [false,false,false,false,false,false,false,true,true] else []) Tryz.func60 ?_;dsimp only[Tryz.f60]
 push_cast -dsimp
 refine cl (h1) ?_;push_cast -dsimp
 refine cl (h2) ?_;push_cast -dsimp [hn,hp]
 refine yB [] [] ((GY 32 P).glob0) rfl (by simp) (by simp) (fun i hi=>by cases hi) (by push_cast -dsimp) rfl ?_
 push_cast -dsimp
 refine range (jq (JT 32 P)) (fun _=>false) 4 (fun j=>⟨[],[[.str a],[.str b],[.sc (.int .i64 e)],[.own 0 9 1 (jq (((JT 32 P).take j).map fun x=>zi x (qF a) (qF b) (Ul e)))]],1,0⟩) hit.glob0 (by push_cast -dsimp) (by push_cast -dsimp) (by push_cast -dsimp) (Nat.zero_le _) (by push_cast -dsimp) (fun it h=>?_) (fun j _=>rfl) ?_ (fun j it hj hsf=>?_) (fun hsf=>?_)
 ·obtain ⟨x,_,rfl⟩:=List.mem_map.1 h;rfl
 ·exact wks [.inr (9,1)]
 ·obtain ⟨x,hx,rfl⟩:=Np hj
  have hjl2:j<(JT 32 P).length:=(List.getElem?_eq_some_iff.1 hx).1
  have hxw:=hws x (List.mem_of_getElem? hx)
  have hs1:=zjg x a b e hxw.1 (by omega) ha hb
  push_cast -dsimp
  refine cl (hs1) ?_;push_cast -dsimp
  repeat refine an ?_
  refine JP.mk [.inl 0] rfl rfl (Nat.le_refl _) rfl (by push_cast -dsimp [ze,zd,CLe,zg]) ?_
  push_cast -dsimp [ze,zd,CLe,zg]
  rw[List.take_add_one,hx]
  simp
 ·have htk:(JT 32 P).take (JT 32 P).length=JT 32 P:=List.take_length
  have j1:=((Gx ((JT 32 P).map fun x=>zi x (qF a) (qF b) (Ul e)) [32] (by rw[List.length_map];omega) (by rw[hsay];omega)).res (congrArg C.str hsay)).glob0 (G':=G2)
  have j2:=((zjp [Qx k,Qv w (qF a) (qF b) (Ul e)] (by simp) (by rw[Jd,Lib.join_one];simp only[List.length_append,List.length_cons,List.length_nil];omega)).res (congrArg C.str (show _=YN k w a b e by rw[Jd,Lib.join_one,YN,if_neg hn,if_neg hpw]))).glob0 (G':=G2)
  push_cast -dsimp [htk]
  refine cl (j1) ?_;push_cast -dsimp
  refine cl (j2) ?_;push_cast -dsimp
  exact dn
end
section
open CA CB
open Go.RowKit QuotePlain
theorem vE (k:Int) (h:1<=k/\k<=22):zX k≠[]:=by
 have hc:k=1∨k=2∨k=3∨k=4∨k=5∨k=6∨k=7∨k=8∨k=9∨k=10∨k=11∨k=12∨k=13∨k=14∨k=15∨k=16∨k=17∨k=18∨k=19∨k=20∨k=21∨k=22:=by omega
 clear h
 rcases hc with rfl | rfl | rfl | rfl | rfl | rfl | rfl | rfl | rfl | rfl | rfl | rfl | rfl | rfl | rfl | rfl | rfl | rfl | rfl | rfl | rfl | rfl<;>decide +kernel
theorem zjy (k:Int) (qa qb m:List UInt8) (h:1<=k/\k<=22):Qv k qa qb m≠[]:=by
 have hc:k=1∨k=2∨k=3∨k=4∨k=5∨k=6∨k=7∨k=8∨k=9∨k=10∨k=11∨k=12∨k=13∨k=14∨k=15∨k=16∨k=17∨k=18∨k=19∨k=20∨k=21∨k=22:=by omega
 clear h
 rcases hc with rfl | rfl | rfl | rfl | rfl | rfl | rfl | rfl | rfl | rfl | rfl | rfl | rfl | rfl | rfl | rfl | rfl | rfl | rfl | rfl | rfl | rfl<;>simp[Qv]
theorem zky (k:Int) (qa qb m:List UInt8):(Qv k qa qb m).length<=qa.length+qb.length+m.length+100:=by
 by_cases h:1<=k/\k<=22
 ·have hc:k=1∨k=2∨k=3∨k=4∨k=5∨k=6∨k=7∨k=8∨k=9∨k=10∨k=11∨k=12∨k=13∨k=14∨k=15∨k=16∨k=17∨k=18∨k=19∨k=20∨k=21∨k=22:=by omega
  clear h
  rcases hc with rfl | rfl | rfl | rfl | rfl | rfl | rfl | rfl | rfl | rfl | rfl | rfl | rfl | rfl | rfl | rfl | rfl | rfl | rfl | rfl | rfl | rfl<;>simp only[Qv,if_true,if_false,Int.reduceEq,List.length_append,List.length_cons,List.length_nil]<;>omega
 ·rw[Nc k _ _ _ h];simp
theorem zgJ (k:Int) (qa qb m:List UInt8) (ha:qa.length<=100000) (hb:qb.length<=100000) (hm:m.length<=100000):Fun Tryz.prog G0 109 [.sc (.int .i64 k),.str qa,.str qb,.str m] (.str (Qv k qa qb m)) 0:=by
 by_cases h:1<=k/\k<=22
 ·have hc:k=1∨k=2∨k=3∨k=4∨k=5∨k=6∨k=7∨k=8∨k=9∨k=10∨k=11∨k=12∨k=13∨k=14∨k=15∨k=16∨k=17∨k=18∨k=19∨k=20∨k=21∨k=22:=by omega
  clear h
  rcases hc with rfl | rfl | rfl | rfl | rfl | rfl | rfl | rfl | rfl | rfl | rfl | rfl | rfl | rfl | rfl | rfl | rfl | rfl | rfl | rfl | rfl | rfl
  all_goals
   refine fon Tryz.func109 ?_;dsimp only[Tryz.f109]
   push_cast -dsimp
   repeat refine an ?_
   exact ⟨[],rfl,rfl,by simp only[Qv];push_cast -dsimp [ze,zd,CLe,zg]<;>simp⟩
 ·have hn:=Nc k qa qb m h
  have n1:¬k=1:=by omega
  have n2:¬k=2:=by omega
  have n3:¬k=3:=by omega
  have n4:¬k=4:=by omega
  have n5:¬k=5:=by omega
  have n6:¬k=6:=by omega
  have n7:¬k=7:=by omega
  have n8:¬k=8:=by omega
  have n9:¬k=9:=by omega
  have n10:¬k=10:=by omega
  have n11:¬k=11:=by omega
  have n12:¬k=12:=by omega
  have n13:¬k=13:=by omega
  have n14:¬k=14:=by omega
  have n15:¬k=15:=by omega
  have n16:¬k=16:=by omega
  have n17:¬k=17:=by omega
  have n18:¬k=18:=by omega
  have n19:¬k=19:=by omega
  have n20:¬k=20:=by omega
  have n21:¬k=21:=by omega
  have n22:¬k=22:=by omega
  refine fon Tryz.func109 ?_;dsimp only[Tryz.f109]
  push_cast -dsimp [n1,n2,n3,n4,n5,n6,n7,n8,n9,n10,n11,n12,n13,n14,n15,n16,n17,n18,n19,n20,n21,n22]
  exact ⟨[],rfl,rfl,by push_cast -dsimp [ze,zd,CLe,zg]<;>simp[hn]⟩
theorem zfX (k w:Int) (a b:List UInt8) (e:Int) (ha:a.length<=1000) (hb:b.length<=1000):Fun Tryz.prog G0 66 [.sc (.int .i64 k),.sc (.int .i64 w),.str a,.str b,.sc (.int .i64 e)] (.str (YN k w a b e)) 0:=by
 have l1:=J7 a
 have l2:=J7 b
 have l3:=Gf e
 have l4:=zky w (qF a) (qF b) (Ul e)
 have l5:=M5 k
 have h1:=zeD k
 have h2:=HR a (by omega)
 have h3:=HR b (by omega)
 have h4:=xr e
 have h5:=zgJ w (qF a) (qF b) (Ul e) (by omega) (by omega) (by omega)
 by_cases hw:1<=w/\w<=22
 ·have hp:=vE w hw
  have hs:=zjy w (qF a) (qF b) (Ul e) hw
  by_cases hn:Qx k = []
  ·rw[hn]at h1
   refine fon Tryz.func66 ?_;dsimp only[Tryz.f66]
   push_cast -dsimp
   refine cl (h1) ?_;push_cast -dsimp
   refine cl (h2) ?_;push_cast -dsimp
   refine cl (h3) ?_;push_cast -dsimp
   refine cl (h4) ?_;push_cast -dsimp
   refine cl (h5) ?_;push_cast -dsimp
   exact ⟨[],rfl,rfl,by push_cast -dsimp [ze,zd,CLe,zg]<;>simp[YN,hn]⟩
  ·refine fon Tryz.func66 ?_;dsimp only[Tryz.f66]
   push_cast -dsimp
   refine cl (h1) ?_;push_cast -dsimp
   refine cl (h2) ?_;push_cast -dsimp
   refine cl (h3) ?_;push_cast -dsimp
   refine cl (h4) ?_;push_cast -dsimp
   refine cl (h5) ?_;push_cast -dsimp [hn,hs]
   repeat refine an ?_
   exact ⟨[],rfl,rfl,by push_cast -dsimp [ze,zd,CLe,zg]<;>simp[YN,hn,hp]⟩
 ·have hp:=QI w hw
  have hs:=Nc w (qF a) (qF b) (Ul e) hw
  rw[hs]at h5
  by_cases hn:Qx k = []
  ·rw[hn]at h1
   refine fon Tryz.func66 ?_;dsimp only[Tryz.f66]
   push_cast -dsimp
   refine cl (h1) ?_;push_cast -dsimp
   refine cl (h2) ?_;push_cast -dsimp
   refine cl (h3) ?_;push_cast -dsimp
   refine cl (h4) ?_;push_cast -dsimp
   refine cl (h5) ?_;push_cast -dsimp
   exact ⟨[],rfl,rfl,by push_cast -dsimp [ze,zd,CLe,zg]<;>simp[YN,hn]⟩
  ·refine fon Tryz.func66 ?_;dsimp only[Tryz.f66]
   push_cast -dsimp
   refine cl (h1) ?_;push_cast -dsimp
   refine cl (h2) ?_;push_cast -dsimp
   refine cl (h3) ?_;push_cast -dsimp
   refine cl (h4) ?_;push_cast -dsimp
   refine cl (h5) ?_;push_cast -dsimp [hn]
   exact ⟨[],rfl,rfl,by push_cast -dsimp [ze,zd,CLe,zg]<;>simp[YN,hn,hp]⟩
end
section
open CA CB
open Go.RowKit
def GD:zr:=fun g=>if g=0 then G1 g else G2 g
theorem zrL (g:Nat) (cs:List C) (h:G1 g=some cs):GD g=some cs:=by
 unfold GD
 by_cases hg:g=0
 ·rw[if_pos hg];exact h
 ·unfold G1 at h
  rw[if_neg hg]at h
  cases h
theorem zry (g:Nat) (cs:List C) (h:G2 g=some cs):GD g=some cs:=by
 unfold GD
 by_cases hg:g=0
 ·subst hg
  have q:G2 0=none:=rfl
  rw[q]at h;cases h
 ·rw[if_neg hg];exact h
theorem Fun.gd1 {f:FuncId} {args:List C} {r:C} {n:Nat} (h:Fun Tryz.prog G1 f args r n):Fun Tryz.prog GD f args r n:=h.glob zrL
theorem Fun.gd2 {f:FuncId} {args:List C} {r:C} {n:Nat} (h:Fun Tryz.prog G2 f args r n):Fun Tryz.prog GD f args r n:=h.glob zry
abbrev zml (d:qM) (ops diags:C):C:=.agg [.sc (.int .i64 d.w.fs.maxI),.sc (.int .i64 d.w.fs.maxB),.sc (.int .i64 d.w.fs.next),.sl 6 (zt d.w.fs.xs),.sl 4 (zH d.w.kept),.sl 6 (zt d.w.pool),ops,diags,.sc (.int .i64 d.status),.sc (.int .i64 d.slot)]
structure Zn (d:qM):Prop where
 wi:J9 d.w
 ws:V1 d.w
 ops:d.ops.length<=80000
 diags:d.diags.length<=80000
 slot:0<=d.slot/\d.slot<=4000000000000000000
theorem kx (o:OpV):opL o = [.sc (.int .i64 o.kind),.sc (.int .i64 o.slot),.str o.a,.str o.b,.str o.d]:=rfl
abbrev zlN:List C:=[.any,.any,.any,.any,.any]
abbrev zlE:List C:=[.any,.any,.any,.any,.any,.any]
abbrev QB:List C:=[.any,.any,.any,.any,.any,.any,.any,.any,.any,.any]
theorem zeF (d:qM) (hd:Zn d) (o:OpV) (ho:short o) (hl:o.d.length<=10000) (hne:(Jt d o).2≠0) (oc dc:C) (hoc:oc = .sl 5 (d.ops.map opL)) (hdc:dc = .sl 1 (jq d.diags)):Fun Tryz.prog GD 25 [zml d oc dc,.agg (opL o)] (.tup [zml d oc dc,.sc (.int .i64 (Jt d o).2)]) 0:=by
 subst hoc hdc
 obtain ⟨k,s,a,b,t⟩:=o
 have hsl:=VT (G:=GD) ⟨k,0,a,b,t⟩
 have hb1:=hd.slot.1
 have hb2:=hd.slot.2
 by_cases hk:k=3∨k=7
 ·have e:jv d ⟨k,s,a,b,t⟩=⟨k,d.slot+1,a,b,t⟩:=by unfold jv;rw[if_pos hk]
  rw[decide_eq_true hk]at hsl
  have hk7:(7<k)=False:=eq_false (by omega)
  have hdo:=(uR d.w hd.wi hd.ws ⟨k,d.slot+1,a,b,t⟩ ho hl (show k<=7 by omega)).gd1
  have ea:Jt d ⟨k,s,a,b,t⟩=if (doV d.w ⟨k,d.slot+1,a,b,t⟩).2≠0 then (d,(doV d.w ⟨k,d.slot+1,a,b,t⟩).2) else (⟨(doV d.w ⟨k,d.slot+1,a,b,t⟩).1,d.ops++[⟨k,d.slot+1,a,b,t⟩],d.diags,d.status,if 0<d.slot+1 then d.slot+1 else d.slot⟩,0):=by
   unfold Jt;rw[if_neg (show ¬7<k by omega),e]
  by_cases hz:(doV d.w ⟨k,d.slot+1,a,b,t⟩).2=0
  ·rw[ea,if_neg (fun h=>h hz)]at hne;exact absurd rfl hne
  ·rw[ea,if_pos hz]
   have hz':=eq_false hz
   unfold opL at hsl hdo ⊢
   refine fon Tryz.func25 ?_;dsimp only[Tryz.f25]
   push_cast -dsimp
   refine cl (hsl) ?_;push_cast -dsimp
   repeat refine an ?_
   push_cast -dsimp [hk7]
   refine cl (hdo) ?_;push_cast -dsimp [hz']
   exact dn
 ·have e:jv d ⟨k,s,a,b,t⟩=⟨k,0,a,b,t⟩:=by unfold jv;rw[if_neg hk]
  rw[decide_eq_false hk]at hsl
  by_cases hk7:7<k
  ·have ea:Jt d ⟨k,s,a,b,t⟩=(d,12):=by unfold Jt;rw[if_pos hk7]
   rw[ea]
   have hk7':=eq_true hk7
   unfold opL at hsl ⊢
   refine fon Tryz.func25 ?_;dsimp only[Tryz.f25]
   push_cast -dsimp
   refine cl (hsl) ?_;push_cast -dsimp [hk7']
   exact dn
  ·have hdo:=(uR d.w hd.wi hd.ws ⟨k,0,a,b,t⟩ ho hl (show k<=7 by omega)).gd1
   have ea:Jt d ⟨k,s,a,b,t⟩=if (doV d.w ⟨k,0,a,b,t⟩).2≠0 then (d,(doV d.w ⟨k,0,a,b,t⟩).2) else (⟨(doV d.w ⟨k,0,a,b,t⟩).1,d.ops++[⟨k,0,a,b,t⟩],d.diags,d.status,if (0:Int)<0 then 0 else d.slot⟩,0):=by
    unfold Jt;rw[if_neg hk7,e]
   by_cases hz:(doV d.w ⟨k,0,a,b,t⟩).2=0
   ·rw[ea,if_neg (fun h=>h hz)]at hne;exact absurd rfl hne
   ·rw[ea,if_pos hz]
    have hz':=eq_false hz
    have hk7':=eq_false hk7
    unfold opL at hsl hdo ⊢
    refine fon Tryz.func25 ?_;dsimp only[Tryz.f25]
    push_cast -dsimp
    refine cl (hsl) ?_;push_cast -dsimp [hk7']
    refine cl (hdo) ?_;push_cast -dsimp [hz']
    exact dn
theorem zoW (d:qM) (hd:Zn d) (o:OpV) (ho:short o) (hl:o.d.length<=10000) (hne:(Jt d o).2=0):XG Tryz.prog GD 25 [zbS d,.agg (opL o)] [] 0 (fun r bx n=>n=0/\∃ c B,zm7 5 c ((Jt d o).1.ops.map opL) B/\r = .tup [zml (Jt d o).1 (.bs 4 0 5 (Jt d o).1.ops.length c) (.sl 1 (jq (Jt d o).1.diags)),.sc (.int .i64 0)]/\bx = [QB,zlN,QB,zlE,B]):=by
 obtain ⟨k,s,a,b,t⟩:=o
 have hsl:=VT (G:=GD) ⟨k,0,a,b,t⟩
 have hb1:=hd.slot.1
 have hb2:=hd.slot.2
 have hopl:(d.ops.map opL).length=d.ops.length:=List.length_map ..
 have hol:=hd.ops
 have hka:∀ r∈d.ops.map opL,r.length=5:=fun r hr=>by obtain ⟨x,_,rfl⟩:=List.mem_map.1 hr;rfl
 have hsa:jA (d.ops.map opL):=fun r hr=>by obtain ⟨x,_,rfl⟩:=List.mem_map.1 hr;rfl
 have hkb:∀ v:Int,∀ r∈[opL ⟨k,v,a,b,t⟩],r.length=5:=fun v r hr=>by rw[List.mem_singleton.1 hr];rfl
 have hsb:∀ v:Int,jA [opL ⟨k,v,a,b,t⟩]:=fun v r hr=>by rw[List.mem_singleton.1 hr];rfl
 have hcc:=fun v:Int=>zc3 (G:=GD) (d.ops.map opL) [opL ⟨k,v,a,b,t⟩] hka (hkb v) hsa (hsb v) (by omega) (by simp) (by simp)
 by_cases hk:k=3∨k=7
 ·have e:jv d ⟨k,s,a,b,t⟩=⟨k,d.slot+1,a,b,t⟩:=by unfold jv;rw[if_pos hk]
  rw[decide_eq_true hk]at hsl
  have hk7:(7<k)=False:=eq_false (by omega)
  have hdo:=(uR d.w hd.wi hd.ws ⟨k,d.slot+1,a,b,t⟩ ho hl (show k<=7 by omega)).gd1
  have ea:Jt d ⟨k,s,a,b,t⟩=if (doV d.w ⟨k,d.slot+1,a,b,t⟩).2≠0 then (d,(doV d.w ⟨k,d.slot+1,a,b,t⟩).2) else (⟨(doV d.w ⟨k,d.slot+1,a,b,t⟩).1,d.ops++[⟨k,d.slot+1,a,b,t⟩],d.diags,d.status,if 0<d.slot+1 then d.slot+1 else d.slot⟩,0):=by
   unfold Jt;rw[if_neg (show ¬7<k by omega),e]
  by_cases hz:(doV d.w ⟨k,d.slot+1,a,b,t⟩).2=0
  ·rw[ea,if_neg (fun h=>h hz),if_pos (show 0<d.slot+1 by omega)]
   rw[hz]at hdo
   have hmx:(if d.slot+1>d.slot then d.slot+1 else d.slot)=d.slot+1:=if_pos (by omega)
   have hc:=hcc (d.slot+1)
   unfold opL at hsl hdo ⊢
   rw[kx]at hc
   refine foX (fun _=>[]) Tryz.func25 ?_;dsimp only[Tryz.f25]
   push_cast -dsimp
   refine cl (hsl) ?_;push_cast -dsimp
   repeat refine an ?_
   push_cast -dsimp [hk7]
   refine cl (hdo) ?_;push_cast -dsimp
   refine Jl [] [] hc rfl (by decide) (by decide) (by simp) (by push_cast -dsimp) (by push_cast -dsimp) (fun r bx' m hp=>?_)
   obtain ⟨rfl,c,B,hB,rfl,rfl⟩:=hp
   have hre:∀ fp fo,C.reL fp fo B=B:=fun fp fo=>zB hB.stay
   push_cast -dsimp [hre,hmx]
   exact ⟨_,[QB,zlN,QB,zlE,B],0,⟨⟨rfl,c,B,by rw[List.map_append];exact hB,rfl,rfl⟩,Nat.zero_le _⟩,[],rfl,rfl,by (push_cast -dsimp [ze,zd,CLe,zg];exact zT hB.stay),by push_cast -dsimp [ze,zd,CLe,zg,List.length_append,List.length_map]⟩
  ·rw[ea,if_pos hz]at hne;exact absurd hne hz
 ·have e:jv d ⟨k,s,a,b,t⟩=⟨k,0,a,b,t⟩:=by unfold jv;rw[if_neg hk]
  rw[decide_eq_false hk]at hsl
  by_cases hk7:7<k
  ·have ea:Jt d ⟨k,s,a,b,t⟩=(d,12):=by unfold Jt;rw[if_pos hk7]
   rw[ea]at hne;exact absurd hne (show ¬(12:Int)=0 by decide)
  ·have hdo:=(uR d.w hd.wi hd.ws ⟨k,0,a,b,t⟩ ho hl (show k<=7 by omega)).gd1
   have ea:Jt d ⟨k,s,a,b,t⟩=if (doV d.w ⟨k,0,a,b,t⟩).2≠0 then (d,(doV d.w ⟨k,0,a,b,t⟩).2) else (⟨(doV d.w ⟨k,0,a,b,t⟩).1,d.ops++[⟨k,0,a,b,t⟩],d.diags,d.status,if (0:Int)<0 then 0 else d.slot⟩,0):=by
    unfold Jt;rw[if_neg hk7,e]
   by_cases hz:(doV d.w ⟨k,0,a,b,t⟩).2=0
   ·rw[ea,if_neg (fun h=>h hz),if_neg (show ¬(0:Int)<0 by omega)]
    rw[hz]at hdo
    have hmx:(if 0>d.slot then 0 else d.slot)=d.slot:=if_neg (by omega)
    have hk7':=eq_false hk7
    have hc:=hcc 0
    unfold opL at hsl hdo ⊢
    rw[kx]at hc
    refine foX (fun _=>[]) Tryz.func25 ?_;dsimp only[Tryz.f25]
    push_cast -dsimp
    refine cl (hsl) ?_;push_cast -dsimp [hk7']
    refine cl (hdo) ?_;push_cast -dsimp
    refine Jl [] [] hc rfl (by decide) (by decide) (by simp) (by push_cast -dsimp) (by push_cast -dsimp) (fun r bx' m hp=>?_)
    obtain ⟨rfl,c,B,hB,rfl,rfl⟩:=hp
    have hre:∀ fp fo,C.reL fp fo B=B:=fun fp fo=>zB hB.stay
    push_cast -dsimp [hre,hmx]
    exact ⟨_,[QB,zlN,QB,zlE,B],0,⟨⟨rfl,c,B,by rw[List.map_append];exact hB,rfl,rfl⟩,Nat.zero_le _⟩,[],rfl,rfl,by (push_cast -dsimp [ze,zd,CLe,zg];exact zT hB.stay),by push_cast -dsimp [ze,zd,CLe,zg,List.length_append,List.length_map]⟩
   ·rw[ea,if_pos hz]at hne;exact absurd hne hz
theorem uY {d:qM} {o:OpV} (h:(Jt d o).2=0):(Jt d o).1.ops=d.ops++[jv d o]:=by
 unfold Jt at h ⊢
 split at h
 ·cases h
 ·rw[if_neg (by assumption)]
  split at h
  ·rename_i h1 h2;exact absurd h h2
  ·rw[if_neg (by assumption)]
theorem Gg (d:qM) (hd:Zn d) (o:OpV) (ho:short o) (hl:o.d.length<=10000) (hne:(Jt d o).2=0):Fun Tryz.prog GD 25 [zbS d,.agg (opL o)] (.tup [zml (Jt d o).1 (.own 0 63 5 ((Jt d o).1.ops.map opL)) (.sl 1 (jq (Jt d o).1.diags)),.sc (.int .i64 0)]) 1:=
 (zoW d hd o ho hl hne).fun (by
  rintro r bx m ⟨rfl,c,B,hB,rfl,rfl⟩
  exact ⟨[(4,63,5,(Jt d o).1.ops.map opL,c)],[.inl 0],hB.ok rfl (by rw[uY hne];simp) (fun r hr=>by obtain ⟨x,_,rfl⟩:=List.mem_map.1 hr;rfl),rfl,rfl,by push_cast -dsimp [ze,zd,CLe,zg,List.length_map]⟩)
def YZ (d:qM) (x:List UInt8):qM:={ d with diags:=d.diags++[x],status:=1 }
theorem zla (d:qM) (hd:d.diags.length<=80000) (k w:Int) (a b:List UInt8) (e:Int) (ha:a.length<=1000) (hb:b.length<=1000) :
  XG Tryz.prog GD 26 [zbS d,.sc (.int .i64 k),.sc (.int .i64 w),.str a,.str b,.sc (.int .i64 e)] [] 0 (fun r bx n=>n=0/\∃ c B,zm7 1 c (jq (YZ d (YN k w a b e)).diags) B/\r=zml (YZ d (YN k w a b e)) (.sl 5 (d.ops.map opL)) (.bs 2 0 1 (d.diags.length+1) c)/\bx = [QB,QB,B]):=by
 have ht:=(zgS k w a b e ha hb).gd2
 generalize YN k w a b e=x at ht ⊢
 have hsl:(jq d.diags).length=d.diags.length:=List.length_map ..
 have hc:=zfi (G:=GD) (jq d.diags) [[.str x]] (fun r hr=>by obtain ⟨x,_,rfl⟩:=List.mem_map.1 hr;rfl) (fun r hr=>by rw[List.mem_singleton.1 hr];rfl) (fun r hr=>by obtain ⟨x,_,rfl⟩:=List.mem_map.1 hr;rfl) (fun r hr=>by rw[List.mem_singleton.1 hr];rfl) (by omega) (by simp) (by simp)
 refine foX (fun i=>if i=1 then [false,false,false,false,false,false,false,false,false,false,false,true,false,false,true] else []) Tryz.func26 ?_;dsimp only[Tryz.f26]
 push_cast -dsimp
 refine cl (ht) ?_;push_cast -dsimp
 refine Jl [] [] hc rfl (by decide) (by decide) (by simp) (by push_cast -dsimp) (by push_cast -dsimp) (fun r bx' m hp=>?_)
 obtain ⟨rfl,c,B,hB,rfl,rfl⟩:=hp
 have hre:∀ fp fo,C.reL fp fo B=B:=fun fp fo=>zB hB.stay
 push_cast -dsimp [hre]
 have hm:jq (YZ d x).diags=jq d.diags++[[.str x]]:=List.map_append
 exact ⟨_,[QB,QB,B],0,⟨⟨rfl,c,B,by rw[hm];exact hB,rfl,rfl⟩,Nat.zero_le _⟩,[],rfl,rfl,by (push_cast -dsimp [ze,zd,CLe,zg];exact zT hB.stay),by push_cast -dsimp [ze,zd,CLe,zg,YZ,List.length_append,hsl]⟩
theorem NC (d:qM) (hd:d.diags.length<=80000) (k w:Int) (a b:List UInt8) (e:Int) (ha:a.length<=1000) (hb:b.length<=1000) :
  Fun Tryz.prog GD 26 [zbS d,.sc (.int .i64 k),.sc (.int .i64 w),.str a,.str b,.sc (.int .i64 e)] (zml (YZ d (YN k w a b e)) (.sl 5 (d.ops.map opL)) (.own 0 9 1 (jq (YZ d (YN k w a b e)).diags))) 1:=
 (zla d hd k w a b e ha hb).fun (by
  rintro r bx m ⟨rfl,c,B,hB,rfl,rfl⟩
  exact ⟨[(2,9,1,jq (YZ d (YN k w a b e)).diags,c)],[.inl 0],hB.ok rfl (by simp[YZ]) (fun r hr=>by obtain ⟨x,_,rfl⟩:=List.mem_map.1 hr;rfl),rfl,rfl,by push_cast -dsimp [ze,zd,CLe,zg,List.length_map,List.length_append,YZ]⟩)
end
section
open CA CB
open Go.RowKit
theorem zo2 (n m:Int):zm2 n m=1↔m<n:=by
 unfold zm2
 split
 ·omega
 ·split<;>omega
theorem xc (w:Int):∀ (l:List Int) (n:Int),v7 w (l++[n])=(v7 w l&&(match l.getLast? with | none=>true | some m=>decide (zm2 n m=w)))
 | [],n=>by simp[v7]
 | [a],n=>by simp[v7]
 | a :: b :: r,n=>by
  have ih:=xc w (b :: r) n
  simp only[List.cons_append,v7]at ih ⊢
  rw[ih,List.getLast?_cons_cons,Bool.and_assoc]
theorem UG (w:Int):∀ (l r:List Int),v7 w (l++r)=true->v7 w l=true
 | [],r,_=>rfl
 | [a],r,_=>rfl
 | a :: b :: l,r,h=>by
  simp only[List.cons_append,v7,Bool.and_eq_true]at h ⊢
  exact ⟨h.1,UG w (b :: l) r h.2⟩
theorem GB (a b:List OpV):qL (a++b)=qL a++qL b:=by simp[qL]
theorem zg8 {f:OpV->Bool} {l:List OpV} (k:Nat) (h:l.any f=false):(l.take k).any f=false:=List.any_eq_false.2 fun x hx=>List.any_eq_false.1 h x (List.mem_of_mem_take hx)
theorem zck {l:List OpV} (k:Nat) (h:XU l=true):XU (l.take k)=true:=by
 simp only[XU,Bool.and_eq_true,Bool.not_eq_true']at h ⊢
 refine ⟨zg8 k h.1,UG 1 _ (qL (l.drop k)) ?_⟩
 rw[←GB,List.take_append_drop];exact h.2
theorem ziy {o:OpV} (h:XH o=true) (hs:qX o.kind=true):1<=o.slot/\o.slot<=1073741824:=by
 simp only[XH,hs,Bool.and_eq_true,if_true,decide_eq_true_eq]at h
 exact h.1.1.1.2
theorem vQ (f:OpV->Bool) (l:List OpV) (k:Nat) (h:k<l.length):(l.take (k+1)).any f=((l.take k).any f||f (l[k]'h)):=by
 rw[List.take_add_one,List.getElem?_eq_getElem h,List.any_append]
 simp
theorem zcw {l:List Int} {d:Int} (h:l.getLast?=none):l.getLastD d=d:=by rw[List.getLastD_eq_getLast?,h];rfl
theorem zfH {l:List Int} {d m:Int} (h:l.getLast?=some m):l.getLastD d=m:=by rw[List.getLastD_eq_getLast?,h];rfl
theorem zb5 (l:List OpV) (k:Nat) (h:k<l.length) (hp:XU (l.take k)=true) (hb:X2 (l[k]'h)=false):XU (l.take (k+1))=(!qX (l[k]'h).kind||decide ((qL (l.take k)).getLastD 0<(l[k]'h).slot)):=by
 simp only[XU,Bool.and_eq_true,Bool.not_eq_true']at hp ⊢
 rw[vQ _ l k h,hp.1,hb,QX l k h]
 cases hs:qX (l[k]'h).kind with
 | false=>simp[hp.2]
 | true =>
  have hm:XH (l[k]'h)=true:=by simp only[X2,Bool.or_eq_false_iff,Bool.not_eq_false']at hb;exact hb.1
  have:=ziy hm hs
  rw[if_pos rfl,xc,hp.2]
  cases hl:(qL (l.take k)).getLast? with
  | none=>rw[zcw hl];simp;omega
  | some m=>rw[zfH hl];simp[zo2]
theorem zfS (l:List Int) (n d:Int):(l++[n]).getLastD d=n:=by simp
theorem zcM:XU []=true:=rfl
theorem zep (l:List OpV) (hx:l.length<=100000) (hl:znP l):Fun Tryz.prog G0 19 [.sl 5 (Hk l)] (qO (XU l)) 0:=by
 refine fon Tryz.func19 ?_;dsimp only[Tryz.f19]
 push_cast -dsimp
 refine loop (fun k:Nat=>⟨[(0,.sl 5 (Hk l)),(3,.sc (.int .i64 ((qL (l.take k)).getLastD 0))),(4,.sc (.int .i64 k))],[],0,0⟩) (fun k=>k<=l.length/\XU (l.take k)=true) (fun k=>l.length-k) 0 ⟨Nat.zero_le _,zcM⟩ ?_ ?_
 ·exact JP.mk [] rfl rfl (Nat.zero_le _) rfl (by push_cast -dsimp [ze,zd,CLe,zg]<;>rfl) (by push_cast -dsimp [ze,zd,CLe,zg])
 ·intro k hk
  have hk1:=hk.1
  have hk2:=hk.2
  by_cases h:k<l.length
  ·have hg:=Uf l k h
   have hsh:=hl _ (List.getElem_mem h)
   have hstep:=zb5 l k h hk2
   have hst:=QX l k h
   have hfail:XU (l.take (k+1))=false->XU l=false:=fun e=>by
    cases hq:XU l with
    | false=>rfl
    | true=>rw[zck (k+1) hq]at e;cases e
   have hbadf:X2 (l[k]'h)=true->XU l=false:=fun e=>hfail (by simp[XU,vQ,h,e])
   cases ho:l[k]'h with
   | mk kd s a b d =>
    rw[ho]at hg hsh hstep hst hbadf
    simp only[opL]at hg
    simp only at hst hstep
    have h1:=JY kd s a b d hsh
    have h2:=QH kd
    simp only[opL]at h1
    cases hm:XH ⟨kd,s,a,b,d⟩ with
    | false =>
     have hp:=hbadf (by simp[X2,hm])
     rw[hm]at h1
     push_cast -dsimp [h,hg]
     refine ⟨by omega,?_⟩
     refine cl (h1) ?_;push_cast -dsimp
     exact ⟨[],rfl,rfl,by push_cast -dsimp [ze,zd,CLe,zg];simp[hp]⟩
    | true =>
     rw[hm]at h1
     by_cases h7:7<kd
     ·have hp:=hbadf (by simp[X2,hm,h7])
      push_cast -dsimp [h,hg]
      refine ⟨by omega,?_⟩
      refine cl (h1) ?_;push_cast -dsimp [hg,h7]
      repeat refine an ?_
      exact ⟨[],rfl,rfl,by push_cast -dsimp [ze,zd,CLe,zg];simp[hp]⟩
     ·have hstep:=hstep (by simp[X2,hm,h7])
      cases hs:qX kd with
      | false =>
       rw[hs]at h2 hstep hst
       rw[if_neg (by simp)]at hst
       push_cast -dsimp [h,hg]
       refine ⟨by omega,?_⟩
       refine cl (h1) ?_;push_cast -dsimp [hg,h7]
       repeat refine an ?_
       refine cl (h2) ?_;push_cast -dsimp
       repeat refine an ?_
       refine ⟨k+1,⟨by omega,by simpa using hstep⟩,by omega,wk (by push_cast -dsimp [ze,zd,CLe,zg,hst])⟩
      | true =>
       rw[hs]at h2 hstep hst
       rw[if_pos rfl]at hst
       by_cases hlt:s<=(qL (l.take k)).getLastD 0
       ·have hp:=hfail (by rw[hstep,decide_eq_false (by omega)];rfl)
        push_cast -dsimp [h,hg]
        refine ⟨by omega,?_⟩
        refine cl (h1) ?_;push_cast -dsimp [hg,h7]
        repeat refine an ?_
        refine cl (h2) ?_;push_cast -dsimp [hg,hlt]
        repeat refine an ?_
        exact ⟨[],rfl,rfl,by push_cast -dsimp [ze,zd,CLe,zg];simp[hp]⟩
       ·have hn:XU (l.take (k+1))=true:=by rw[hstep,decide_eq_true (by omega)];rfl
        have hlast:=zfS (qL (l.take k)) s 0
        push_cast -dsimp [h,hg]
        refine ⟨by omega,?_⟩
        refine cl (h1) ?_;push_cast -dsimp [hg,h7]
        repeat refine an ?_
        refine cl (h2) ?_;push_cast -dsimp [hg,hlt]
        repeat refine an ?_
        refine ⟨k+1,⟨by omega,hn⟩,by omega,wk (by push_cast -dsimp [ze,zd,CLe,zg,hst,hlast])⟩
  ·obtain rfl:k=l.length:=by omega
   rw[List.take_length]at hk2
   push_cast -dsimp [h]
   exact ⟨[],rfl,rfl,by push_cast -dsimp [ze,zd,CLe,zg];simp[hk2]⟩
end
section
open CA CB
open Go.RowKit
theorem zaL (l:List OpV) (hl:l.length<=100000):Fun Tryz.prog G0 21 [.sl 5 (Hk l)] (.own 0 3 1 (zoz (qL l))) 1:=by
 refine fon Tryz.func21 ?_;dsimp only[Tryz.f21]
 push_cast -dsimp
 refine loop (fun k:Nat=>⟨[(0,.sl 5 (Hk l)),(3,.own 0 3 1 (zoz (qL (l.take k)))),(4,.sc (.int .i64 k))],[],1,0⟩) (fun k=>k<=l.length) (fun k=>l.length-k) 0 (Nat.zero_le _) ?_ ?_
 ·exact JP.mk [.inr (3,1)] rfl rfl (Nat.zero_le _) rfl (by push_cast -dsimp [ze,zd,CLe,zg]<;>rfl) (by push_cast -dsimp [ze,zd,CLe,zg])
 ·intro k hk
  by_cases h:k<l.length
  ·have hg:=Uf l k h
   have hst:=QX l k h
   have hsl:=za3 l k
   cases ho:l[k]'h with
   | mk kd s a b d =>
    rw[ho]at hg hst
    simp only[opL]at hg
    simp only at hst
    have h2:=QH kd
    cases hs:qX kd with
    | false =>
     rw[hs]at h2 hst
     rw[if_neg (by simp)]at hst
     push_cast -dsimp [h,hg]
     repeat refine an ?_
     refine cl (h2) ?_;push_cast -dsimp
     repeat refine an ?_
     refine ⟨k+1,by omega,by omega,wks [.inl 0] (by push_cast -dsimp [ze,zd,CLe,zg,hst])⟩
    | true =>
     rw[hs]at h2 hst
     rw[if_pos rfl]at hst
     push_cast -dsimp [h,hg]
     repeat refine an ?_
     refine cl (h2) ?_;push_cast -dsimp [hg]
     repeat refine an ?_
     refine ⟨k+1,by omega,by omega,wks [.inl 0] (by push_cast -dsimp [ze,zd,CLe,zg,hst])⟩
  ·obtain rfl:k=l.length:=by omega
   rw[List.take_length]
   push_cast -dsimp [h]
   exact ⟨[.inl 0],rfl,rfl,by push_cast -dsimp [ze,zd,CLe,zg]⟩
def okO (o:OpV):Bool:=decide (o.a.length<=1000)&&decide (o.b.length<=1000)&&decide (o.d.length<=5000)
def zj7 (l:List OpV):Bool:=(l.take 200).all okO&&decide (l.length<=100)
theorem ziz (l:List OpV):Fun Tryz.prog G0 32 [.sl 5 (Hk l)] (qO (zj7 l)) 0:=by
 refine fon Tryz.func32 ?_;dsimp only[Tryz.f32]
 push_cast -dsimp
 refine loop (fun k:Nat=>⟨[(0,.sl 5 (Hk l)),(3,.sc (.int .i64 k))],[],0,0⟩) (fun k=>k<=l.length/\k<=200/\∀ j (hj:j<l.length),j<k->okO (l[j]'hj)=true) (fun k=>l.length-k) 0 ⟨Nat.zero_le _,Nat.zero_le _,fun j _ hj=>by omega⟩ ?_ ?_
 ·exact wk
 ·intro k hk
  have hk1:=hk.1
  have hk2:=hk.2.1
  have hk3:=hk.2.2
  have fin:(¬k<l.length∨¬k<200)->zj7 l=decide ((l.length:Int)<=100):=fun hh=>by
   have:(l.take 200).all okO=true:=List.all_eq_true.2 fun x hx=>by
    obtain ⟨j,hj,rfl⟩:=List.getElem_of_mem hx
    rw[List.length_take]at hj
    rw[List.getElem_take]
    exact hk3 j (by omega) (by omega)
   simp only[zj7,this,Bool.true_and]
   rw[decide_eq_decide];omega
  by_cases h:k<l.length
  ·by_cases h2:k<200
   ·have hg:=Uf l k h
    have h2':(k:Int)<200:=by omega
    have hno:okO (l[k]'h)=false->zj7 l=false:=fun e=>by
     have:(l.take 200).all okO=false:=List.all_eq_false.2 ⟨l[k]'h,List.mem_of_getElem? (i:=k) (by rw[List.getElem?_take,if_pos h2,List.getElem?_eq_getElem h]),by simp[e]⟩
     simp[zj7,this]
    have hyes:okO (l[k]'h)=true->∀ j (hj:j<l.length),j<k+1->okO (l[j]'hj)=true:=fun e j hj hjk=>by
     rcases Nat.lt_or_ge j k with g | g
     ·exact hk3 j hj g
     ·have:j=k:=by omega
      subst this;exact e
    cases ho:l[k]'h with
    | mk kd s a b d =>
     rw[ho]at hg hno hyes
     simp only[opL]at hg
     simp only[okO]at hno hyes
     by_cases ha:a.length<=1000
     ·have ha':¬(1000:Int)<(a.length:Int):=by omega
      by_cases hb:b.length<=1000
      ·have hb':¬(1000:Int)<(b.length:Int):=by omega
       by_cases hd:d.length<=5000
       ·have hd':¬(5000:Int)<(d.length:Int):=by omega
        push_cast -dsimp [h,h2',hg,ha',hb',hd']
        repeat refine an ?_
        refine ⟨k+1,⟨by omega,by omega,hyes (by simp[ha,hb,hd])⟩,by omega,wk⟩
       ·have hd':(5000:Int)<(d.length:Int):=by omega
        have hf:=hno (by simp[hd])
        push_cast -dsimp [h,h2',hg,ha',hb',hd']
        repeat refine an ?_
        exact ⟨[],rfl,rfl,by push_cast -dsimp [ze,zd,CLe,zg];simp[hf]⟩
      ·have hb':(1000:Int)<(b.length:Int):=by omega
       have hf:=hno (by simp[hb])
       push_cast -dsimp [h,h2',hg,ha',hb']
       repeat refine an ?_
       exact ⟨[],rfl,rfl,by push_cast -dsimp [ze,zd,CLe,zg];simp[hf]⟩
     ·have ha':(1000:Int)<(a.length:Int):=by omega
      have hf:=hno (by simp[ha])
      push_cast -dsimp [h,h2',hg,ha']
      repeat refine an ?_
      exact ⟨[],rfl,rfl,by push_cast -dsimp [ze,zd,CLe,zg];simp[hf]⟩
   ·have h2':¬(k:Int)<200:=by omega
    have hf:=fin (.inr h2)
    push_cast -dsimp [h,h2']
    refine ⟨[],rfl,rfl,?_⟩
    push_cast -dsimp [ze,zd,CLe,zg]
    rw[hf]
  ·have hf:=fin (.inl h)
   push_cast -dsimp [h]
   refine ⟨[],rfl,rfl,?_⟩
   push_cast -dsimp [ze,zd,CLe,zg]
   rw[hf]
end
section
open CA CB
open Go.RowKit
theorem zlP (a b:zP):(decide (a.slot=b.slot)&&decide (a.ino=b.ino)&&a.content==b.content&&decide (a.data=b.data))=decide (a=b):=by
 obtain ⟨a1,a2,a3,a4⟩:=a
 obtain ⟨b1,b2,b3,b4⟩:=b
 rw[Bool.eq_iff_iff]
 simp[and_assoc]
theorem zen (x y:qg) (hx:x.fs.xs.length<=100000) (hp:x.pool.length<=100000) (hk:x.kept.length<=100000) (he:∀ z∈x.fs.xs,z.es.length<=9223372036854775807) (hep:∀ z∈x.pool,z.es.length<=9223372036854775807):Fun Tryz.prog G0 24 [jB x,jB y] (qO (decide (x=y))) 0:=by
 obtain ⟨f,a,p⟩:=x
 obtain ⟨g,b,q⟩:=y
 have hk:a.length<=100000:=hk
 have hla:(zH a).length=a.length:=List.length_map ..
 have hlb:(zH b).length=b.length:=List.length_map ..
 have h1:=zeG (G:=G0) f g hx he
 have h2:=H0 (G:=G0) p q hp hep
 have hw:(⟨f,a,p⟩:qg)=⟨g,b,q⟩↔f=g/\p=q/\a=b:=by simp only[qg.mk.injEq];exact ⟨fun h=>⟨h.1,h.2.2,h.2.1⟩,fun h=>⟨h.1,h.2.2,h.2.1⟩⟩
 by_cases c1:f=g
 case neg =>
  have hn:¬(⟨f,a,p⟩:qg)=⟨g,b,q⟩:=fun h=>c1 (hw.1 h).1
  rw[decide_eq_false c1]at h1
  refine fon Tryz.func24 ?_;dsimp only[Tryz.f24]
  push_cast -dsimp
  refine cl (h1) ?_;push_cast -dsimp
  exact dn (by push_cast -dsimp [ze,zd,CLe,zg,hn])
 rw[decide_eq_true c1]at h1
 by_cases c2:p=q
 case neg =>
  have hn:¬(⟨f,a,p⟩:qg)=⟨g,b,q⟩:=fun h=>c2 (hw.1 h).2.1
  rw[decide_eq_false c2]at h2
  refine fon Tryz.func24 ?_;dsimp only[Tryz.f24]
  push_cast -dsimp
  refine cl (h1) ?_;push_cast -dsimp
  refine cl (h2) ?_;push_cast -dsimp
  exact dn (by push_cast -dsimp [ze,zd,CLe,zg,hn])
 rw[decide_eq_true c2]at h2
 by_cases c3:a.length=b.length
 case neg =>
  have hn:¬(⟨f,a,p⟩:qg)=⟨g,b,q⟩:=fun h=>c3 (by rw[(hw.1 h).2.2])
  have c3':((a.length:Int)=b.length)=False:=eq_false (by omega)
  refine fon Tryz.func24 ?_;dsimp only[Tryz.f24]
  push_cast -dsimp
  refine cl (h1) ?_;push_cast -dsimp
  refine cl (h2) ?_;push_cast -dsimp [hla,hlb,c3']
  exact dn (by push_cast -dsimp [ze,zd,CLe,zg,hn])
 have c3':((a.length:Int)=b.length)=True:=eq_true (by omega)
 refine fon Tryz.func24 ?_;dsimp only[Tryz.f24]
 push_cast -dsimp
 refine cl (h1) ?_;push_cast -dsimp
 refine cl (h2) ?_;push_cast -dsimp [hla,hlb,c3']
 refine loop (fun i:Nat=>⟨[(2,.ptr 0 0),(3,.ptr 1 0),(5,.sc (.int .i64 i))],[kI ⟨f,a,p⟩,kI ⟨g,b,q⟩],0,0⟩) (fun i=>i<=a.length/\a.take i=b.take i) (fun i=>a.length-i) 0 ⟨Nat.zero_le _,rfl⟩ ?_ ?_
 ·exact wk
 rintro i ⟨i1,i2⟩
 by_cases h:i<a.length
 ·have hb:i<b.length:=by omega
  have g1:=jr a i h
  have g2:=jr b i hb
  have hd:=zlP a[i] b[i]
  by_cases hab:a[i]=b[i]
  ·rw[decide_eq_true hab]at hd
   push_cast -dsimp [hla,hlb,h,hb,g1,g2,hd]
   repeat refine an ?_
   repeat refine an ?_
   exact ⟨i+1,⟨h,(XM (by omega) hb i2).2 hab⟩,by omega,wk⟩
  ·rw[decide_eq_false hab]at hd
   have hn:¬(⟨f,a,p⟩:qg)=⟨g,b,q⟩:=fun h=>hab (by have:=(hw.1 h).2.2;subst this;rfl)
   push_cast -dsimp [hla,hlb,h,hb,g1,g2,hd]
   repeat refine an ?_
   exact dn (by push_cast -dsimp [ze,zd,CLe,zg,hn])
 ·have hab:a=b:=by rw[←List.take_of_length_le (l:=a) (i:=i) (by omega),i2,List.take_of_length_le (by omega)]
  have hn:=hw.2 ⟨c1,c2,hab⟩
  push_cast -dsimp [hla,h]
  exact dn (by push_cast -dsimp [ze,zd,CLe,zg,hn])
theorem zfm (w:qg) (hk:w.kept.length<=100000) (hs:X8 w.kept):Fun Tryz.prog G0 33 [jB w] (zbS (zcu w)) 0:=by
 have h:=kA (G:=G0) w hk hs.1 hs.2
 refine fof (fun i=>if i=1 then [false,false,false,false,true] else []) Tryz.func33 ?_;dsimp only[Tryz.f33]
 push_cast -dsimp
 refine cl (h) ?_;push_cast -dsimp
 exact dn (by push_cast -dsimp [ze,zd,CLe,zg,zcu])
theorem zhd (d:qM) (hd:Zn d) (o:OpV) (ho:short o) (hl:o.d.length<=10000):Fun Tryz.prog G0 34 [zbS d,.agg (opL o)] (.tup [zbS (Jt d o).1,.sc (.int .i64 (Jt d o).2)]) 0:=by
 obtain ⟨k,s,a,b,t⟩:=o
 have hb1:=hd.slot.1
 have hb2:=hd.slot.2
 have hopl:(d.ops.map opL).length=d.ops.length:=List.length_map ..
 have hol:=hd.ops
 have hka:∀ r∈d.ops.map opL,r.length=5:=fun r hr=>by obtain ⟨x,_,rfl⟩:=List.mem_map.1 hr;rfl
 by_cases hk:k=3∨k=7
 ·have e:jv d ⟨k,s,a,b,t⟩=⟨k,d.slot+1,a,b,t⟩:=by unfold jv;rw[if_pos hk]
  have hk7:(7<k)=False:=eq_false (by omega)
  have hdo:=y6 d.w hd.wi hd.ws ⟨k,d.slot+1,a,b,t⟩ ho hl (show k<=7 by omega)
  have ea:Jt d ⟨k,s,a,b,t⟩=if (doV d.w ⟨k,d.slot+1,a,b,t⟩).2≠0 then (d,(doV d.w ⟨k,d.slot+1,a,b,t⟩).2) else (⟨(doV d.w ⟨k,d.slot+1,a,b,t⟩).1,d.ops++[⟨k,d.slot+1,a,b,t⟩],d.diags,d.status,if 0<d.slot+1 then d.slot+1 else d.slot⟩,0):=by
   unfold Jt;rw[if_neg (show ¬7<k by omega),e]
  have hmx:(0<d.slot+1)=True:=eq_true (by omega)
  unfold opL at hdo ⊢
  by_cases hz:(doV d.w ⟨k,d.slot+1,a,b,t⟩).2=0
  ·rw[ea,if_neg (fun h=>h hz),if_pos (show 0<d.slot+1 by omega)]
   rw[hz]at hdo
   rcases hk with hk3 | hk3 <;>
   ·have hk3':=eq_true hk3
    by_cases hoe:d.ops.map opL = []
    ·refine fof (fun i=>if i=10 then [false,false,false,false,false,false,false,true,false,false,true] else []) Tryz.func34 ?_;dsimp only[Tryz.f34]
     push_cast -dsimp [hk3,hk7,Int.reduceEq]
     subst hk3
     repeat refine an ?_
     refine cl (hdo) ?_;push_cast -dsimp [hmx,hoe]
     repeat refine an ?_
     exact dn (by push_cast -dsimp [ze,zd,CLe,zg,List.map_append,hoe,opL])
    ·have hoe':=eq_false hoe
     refine fof (fun i=>if i=10 then [false,false,false,false,false,false,false,true,false,false,true] else []) Tryz.func34 ?_;dsimp only[Tryz.f34]
     push_cast -dsimp [hk3,hk7,Int.reduceEq]
     subst hk3
     repeat refine an ?_
     refine cl (hdo) ?_;push_cast -dsimp [hmx,hoe']
     repeat refine an ?_
     exact dn (by push_cast -dsimp [ze,zd,CLe,zg,List.map_append,opL])
  ·rw[ea,if_pos hz]
   have hz':=eq_false hz
   rcases hk with hk3 | hk3 <;>
   ·have hk3':=eq_true hk3
    refine fof (fun i=>if i=10 then [false,false,false,false,false,false,false,true,false,false,true] else []) Tryz.func34 ?_;dsimp only[Tryz.f34]
    push_cast -dsimp [hk3,hk7,Int.reduceEq]
    subst hk3
    repeat refine an ?_
    refine cl (hdo) ?_;push_cast -dsimp [hz']
    exact dn
 ·have e:jv d ⟨k,s,a,b,t⟩=⟨k,0,a,b,t⟩:=by unfold jv;rw[if_neg hk]
  have k3:(k=3)=False:=eq_false fun h=>hk (.inl h)
  have k7:(k=7)=False:=eq_false fun h=>hk (.inr h)
  by_cases hk7:7<k
  ·have ea:Jt d ⟨k,s,a,b,t⟩=(d,12):=by unfold Jt;rw[if_pos hk7]
   rw[ea]
   have hk7':=eq_true hk7
   unfold opL
   refine fof (fun i=>if i=10 then [false,false,false,false,false,false,false,true,false,false,true] else []) Tryz.func34 ?_;dsimp only[Tryz.f34]
   push_cast -dsimp [k3,k7,hk7']
   exact dn
  ·have hdo:=y6 d.w hd.wi hd.ws ⟨k,0,a,b,t⟩ ho hl (show k<=7 by omega)
   have ea:Jt d ⟨k,s,a,b,t⟩=if (doV d.w ⟨k,0,a,b,t⟩).2≠0 then (d,(doV d.w ⟨k,0,a,b,t⟩).2) else (⟨(doV d.w ⟨k,0,a,b,t⟩).1,d.ops++[⟨k,0,a,b,t⟩],d.diags,d.status,if (0:Int)<0 then 0 else d.slot⟩,0):=by
    unfold Jt;rw[if_neg hk7,e]
   have hk7':=eq_false hk7
   unfold opL at hdo ⊢
   by_cases hz:(doV d.w ⟨k,0,a,b,t⟩).2=0
   ·rw[ea,if_neg (fun h=>h hz),if_neg (show ¬(0:Int)<0 by omega)]
    rw[hz]at hdo
    by_cases hoe:d.ops.map opL = []
    ·refine fof (fun i=>if i=10 then [false,false,false,false,false,false,false,true,false,false,true] else []) Tryz.func34 ?_;dsimp only[Tryz.f34]
     push_cast -dsimp [k3,k7,hk7']
     refine cl (hdo) ?_;push_cast -dsimp [hoe]
     repeat refine an ?_
     exact dn (by push_cast -dsimp [ze,zd,CLe,zg,List.map_append,hoe,opL])
    ·have hoe':=eq_false hoe
     refine fof (fun i=>if i=10 then [false,false,false,false,false,false,false,true,false,false,true] else []) Tryz.func34 ?_;dsimp only[Tryz.f34]
     push_cast -dsimp [k3,k7,hk7']
     refine cl (hdo) ?_;push_cast -dsimp [hoe']
     repeat refine an ?_
     exact dn (by push_cast -dsimp [ze,zd,CLe,zg,List.map_append,opL])
   ·rw[ea,if_pos hz]
    have hz':=eq_false hz
    refine fof (fun i=>if i=10 then [false,false,false,false,false,false,false,true,false,false,true] else []) Tryz.func34 ?_;dsimp only[Tryz.f34]
    push_cast -dsimp [k3,k7,hk7']
    refine cl (hdo) ?_;push_cast -dsimp [hz']
    exact dn
theorem ze5 (d:qM) (hd:d.diags.length<=80000) (k w:Int) (a b:List UInt8) (e:Int) (ha:a.length<=1000) (hb:b.length<=1000) :
  Fun Tryz.prog G0 35 [zbS d,.sc (.int .i64 k),.sc (.int .i64 w),.str a,.str b,.sc (.int .i64 e)] (zbS (YZ d (YN k w a b e))) 0:=by
 have ht:=zfX k w a b e ha hb
 generalize YN k w a b e=x at ht ⊢
 have hsl:(jq d.diags).length=d.diags.length:=List.length_map ..
 refine fon Tryz.func35 ?_;dsimp only[Tryz.f35]
 push_cast -dsimp
 repeat refine an ?_
 refine cl (ht) ?_;push_cast -dsimp
 repeat refine an ?_
 exact dn (by push_cast -dsimp [ze,zd,CLe,zg,YZ])
end
section
open CA CB
open Go.RowKit
structure zsh where
 path:List UInt8
 ino:Int
deriving DecidableEq,Inhabited
def vP (p n:List UInt8):List UInt8:=if p = [47] then p++n else p++[47]++n
section
variable {G:zr}
end
end
section
open CA CB
open Go.RowKit
abbrev JK:=List (List (List UInt8)×zp)
structure v6 (f:FsV) (tr:Int->List (List UInt8)->JK):Prop where
 has:∀ n ns,zn n f.xs=true->tr n ns=(ns,zh n f.xs) :: (zh n f.xs).es.flatMap fun e=>tr e.ino (ns++[e.name])
 not:∀ n ns,zn n f.xs=false->tr n ns = []
abbrev Un (p:List (List UInt8)×zp):List C:=[.str (jh p.1),.agg (J4 p.2)]
def zbC (tr:Int->List (List UInt8)->JK) (ns:List (List UInt8)) (es:List zZ):JK:=es.flatMap fun e=>tr e.ino (ns++[e.name])
def XP (tr:Int->List (List UInt8)->JK) (S:List (List (List UInt8)×List zZ)):JK:=S.flatMap fun p=>zbC tr p.1 p.2
abbrev lvC (p:List (List UInt8)×List zZ):List C:=[.sl 1 (jq p.1),.sl 2 (zJ p.2)]
def kS (S:List (List (List UInt8)×List zZ)):List C:=(S.reverse.map lvC).flatten
theorem zko (S:List (List (List UInt8)×List zZ)):(kS S).length=S.length*2:=by
 unfold kS
 rw[qt (k:=2) fun r hr=>by obtain ⟨p,_,rfl⟩:=List.mem_map.1 hr;rfl]
 simp
theorem uy (p:List (List UInt8)×List zZ) (S:List (List (List UInt8)×List zZ)):kS (p :: S)=kS S++lvC p:=by
 unfold kS;simp
def Z9 (p:List (List UInt8)×zp):Prop:=p.1.length<=1000000/\(Lib.join p.1 [47]).length<=1000000
structure YG (f:FsV) (tr:Int->List (List UInt8)->JK) (IT:List (List C)) (sf:Nat->Bool) (S:List (List (List UInt8)×List zZ)) (k cap:Nat):Prop where
 rest:IT.drop k=(XP tr S).map Un
 bound:∀ p∈XP tr S,Z9 p
 le:k<=IT.length
 go:∀ j,j<k->sf j=false
 pos:S.length<=k
 room:S.length<=cap
 roomM:cap<=9223372036854775807
 has:∀ p∈S,p.2.length<=40/\∀ e∈p.2,zn e.ino f.xs=true
theorem Zo (S:List (List (List UInt8)×List zZ)):((kS S).all C.stayB)=true:=Qe fun r hr=>by
 obtain ⟨p,_,rfl⟩:=List.mem_map.1 hr;rfl
theorem YG.pop {f:FsV} {tr:Int->List (List UInt8)->JK} {IT:List (List C)} {sf:Nat->Bool} {S:List (List (List UInt8)×List zZ)} {ns:List (List UInt8)} {k cap:Nat} (h:YG f tr IT sf ((ns,[]) :: S) k cap):YG f tr IT sf S k cap:=by
 have e:XP tr ((ns,[]) :: S)=XP tr S:=by simp[XP,zbC]
 exact ⟨by rw[←e];exact h.rest,fun p hp=>h.bound p (by rw[e];exact hp),h.le,h.go,by have:=h.pos;rw[List.length_cons]at this;omega,by have:=h.room;rw[List.length_cons]at this;omega,h.roomM,fun p hp=>h.has p (List.mem_cons_of_mem _ hp)⟩
theorem YG.next {f:FsV} {tr:Int->List (List UInt8)->JK} {IT:List (List C)} {sf:Nat->Bool} {S:List (List (List UInt8)×List zZ)} {ns:List (List UInt8)} {e:zZ} {r:List zZ} {k cap:Nat} (h:YG f tr IT sf ((ns,e :: r) :: S) k cap) (ht:v6 f tr) (hf:VS f.xs) (h3:Yt f) :
  ∃ y,y=zh e.ino f.xs/\y∈f.xs/\IT[k]?=some (Un (ns++[e.name],y))/\Z9 (ns++[e.name],y)/\(sf k=false->(∀ c,S.length+2<=c->c<=9223372036854775807->YG f tr IT sf ((ns++[e.name],y.es) :: (ns,r) :: S) (k+1) c)/\(y.es = []->YG f tr IT sf ((ns,r) :: S) (k+1) cap)):=by
 have hh:zn e.ino f.xs=true:=(h.has (ns,e :: r) List.mem_cons_self).2 e List.mem_cons_self
 obtain ⟨hm,hi⟩:=jt hh
 have hu:=ht.has e.ino (ns++[e.name]) hh
 have hrest:XP tr ((ns,e :: r) :: S)=(ns++[e.name],zh e.ino f.xs) :: XP tr ((ns++[e.name],(zh e.ino f.xs).es) :: (ns,r) :: S):=by
  simp only[XP,zbC,List.flatMap_cons,hu,List.cons_append,List.append_assoc]
 refine ⟨_,rfl,hm,?_,h.bound _ (by rw[hrest];exact List.mem_cons_self),fun hs=>?_⟩
 ·have:=h.rest
  rw[hrest]at this
  have:=congrArg (·[0]?) this
  simpa using this
 ·have hd:IT.drop (k+1)=(XP tr ((ns++[e.name],(zh e.ino f.xs).es) :: (ns,r) :: S)).map Un:=by
   rw[←List.drop_drop,h.rest,hrest];rfl
  have hb:∀ p∈XP tr ((ns++[e.name],(zh e.ino f.xs).es) :: (ns,r) :: S),Z9 p:=fun p hp=>h.bound p (by rw[hrest];exact List.mem_cons_of_mem _ hp)
  have hkl:k+1<=IT.length:=by
   rcases Nat.lt_or_ge k IT.length with g | g
   ·exact g
   ·have:=h.rest
    rw[List.drop_eq_nil_of_le g,hrest]at this;cases this
  have hgo:∀ j,j<k+1->sf j=false:=fun j hj=>by
   rcases Nat.lt_or_ge j k with g | g
   ·exact h.go j g
   ·rw[show j=k by omega];exact hs
  have hp:=h.pos
  have hro:=h.room
  have hrm:=h.roomM
  rw[List.length_cons]at hp hro
  have h0:=h.has (ns,e :: r) List.mem_cons_self
  have hr0:r.length<=40/\∀ e'∈r,zn e'.ino f.xs=true:=⟨by have:=h0.1;simp at this;omega,fun e' he=>h0.2 e' (List.mem_cons_of_mem _ he)⟩
  refine ⟨fun c h1 h2=>⟨hd,hb,hkl,hgo,by simp;omega,by simp;omega,h2,fun p hp=>?_⟩,fun hne=>?_⟩
  ·rcases List.mem_cons.1 hp with rfl | hp
   ·exact ⟨(hf.2 _ hm).2.1,fun e' he=>h3 _ hm e' he⟩
   ·rcases List.mem_cons.1 hp with rfl | hp
    ·exact hr0
    ·exact h.has p (List.mem_cons_of_mem _ hp)
  ·have hz:XP tr ((ns++[e.name],(zh e.ino f.xs).es) :: (ns,r) :: S)=XP tr ((ns,r) :: S):=by rw[hne];simp[XP,zbC]
   rw[hz]at hd hb
   exact ⟨hd,hb,hkl,hgo,by simp;omega,by simp;omega,hrm,fun p hp=>by
    rcases List.mem_cons.1 hp with rfl | hp
    ·exact hr0
    ·exact h.has p (List.mem_cons_of_mem _ hp)⟩
theorem zaD (f:FsV) (ino:Int) (ns:List (List UInt8)) (tr:Int->List (List UInt8)->JK) (ht:v6 f tr) (hf:VS f.xs) (hR:z7 f.xs) (h3:Yt f) (h2:∀ x∈f.xs,x.kind≠2->x.es = []) (hl:(tr ino ns).length<=1000000) (hb:∀ p∈tr ino ns,Z9 p) :
  xz Tryz.prog G0 157 [] [.row (fsC f),.row [.sc (.int .i64 ino)],.row [.sl 1 (jq ns)]] [] ((tr ino ns).map Un):=by
 have h40:=hf.1
 refine foI (fun i=>if i=1000000+197 then [true] else if i=1 then [false,false,false,false,false,false,false,true] else if i=10 then [false,false,false,false,true] else []) Tryz.func157 ?_;dsimp only[Tryz.f157]
 intro l sf
 push_cast -dsimp
 refine cl (jY f ino (by omega) hR) ?_;push_cast -dsimp
 cases hh:zn ino f.xs with
 | false =>
  have hn:=ht.not ino ns hh
  push_cast -dsimp
  rw[hn]
  exact .inl ⟨rfl,fun j hj=>absurd hj (Nat.not_lt_zero _)⟩
 | true =>
  have hn:=ht.has ino ns hh
  have q:Z9 (ns,zh ino f.xs):=hb _ (by rw[hn];exact List.mem_cons_self)
  have h0:((tr ino ns).map Un)[0]?=some (Un (ns,zh ino f.xs)):=by rw[hn];rfl
  obtain ⟨hm,hino⟩:=jt hh
  generalize zh ino f.xs=x at hn h0 hm hino
  have hITl:((tr ino ns).map Un).length<=1000000:=by rw[List.length_map];exact hl
  generalize hIT:(tr ino ns).map Un=IT at h0 hITl
  push_cast -dsimp
  refine cl (Qc ns (by have:=q.1;dsimp only at this;omega) (by have:=q.2;dsimp only at this;omega)) ?_;push_cast -dsimp [h0]
  refine ⟨by push_cast -dsimp [ze,zd,CLe,zg],fun j hj=>absurd hj (Nat.not_lt_zero _),br (fun hs=>?_) (fun hs=>?_)⟩
  ·push_cast -dsimp
   exact .inr ⟨Nat.succ_pos _,hs⟩
  ·push_cast -dsimp
   refine loop (fun p:List (List (List UInt8)×List zZ)×Nat×Nat=>⟨[(0,.sc (.func (.yield l) #[] #[])),(1,.row (fsC f)),(7,.bs 1 0 2 p.1.length p.2.2)],[[.any,.any,.any,.any,.any,.any],kS p.1++List.replicate ((p.2.2-p.1.length)*2) .any],0,p.2.1⟩) (fun p=>YG f tr IT sf p.1 p.2.1 p.2.2) (fun p=>2*(IT.length-p.2.1)+p.1.length) ([(ns,x.es)],1,1) ?_ ?_ ?_
   ·have hdr:IT.drop 1=(XP tr [(ns,x.es)]).map Un:=by
     rw[←hIT,hn]
     simp[XP,zbC]
    show YG f tr IT sf [(ns,x.es)] 1 1
    exact ⟨hdr,fun p hp=>hb p (by rw[hn];exact List.mem_cons_of_mem _ (by simpa [XP,zbC] using hp)),by have:=(List.getElem?_eq_some_iff.1 h0).1;omega,fun j hj=>by rw[show j=0 by omega];exact hs,Nat.le_refl _,Nat.le_refl _,by omega,fun p hp=>by
     rw[List.mem_singleton]at hp;subst hp
     exact ⟨(hf.2 x hm).2.1,fun e he=>h3 x hm e he⟩⟩
   ·have hl1:kS [(ns,x.es)] = [.sl 1 (jq ns),.sl 2 (zJ x.es)]:=rfl
    exact wk (h5:=by push_cast -dsimp [ze,zd,CLe,zg,hl1])
   ·rintro ⟨S,k,cap⟩ hS
    dsimp only at hS ⊢
    cases S with
    | nil =>
     push_cast -dsimp
     have hr:=hS.rest
     have he:IT.length<=k:=by
      rcases Nat.lt_or_ge k IT.length with g | g
      ·have:=congrArg List.length hr
       simp[XP]at this;omega
      ·exact g
     exact .inl ⟨by have:=hS.le;omega,hS.go⟩
    | cons p S' =>
     obtain ⟨ns1,es1⟩:=p
     have hL:=zko S'
     have hd0:∀ X,(kS S'++X).drop (S'.length*2)=X:=fun X=>List.drop_left' hL
     have hd1:∀ X,(kS S'++X).drop (S'.length*2+1)=X.drop 1:=fun X=>by rw[←List.drop_drop,hd0]
     have hd2:∀ X,(kS S'++X).drop (S'.length*2+2)=X.drop 2:=fun X=>by rw[←List.drop_drop,hd0]
     have ht0:∀ X,(kS S'++X).take (S'.length*2)=kS S':=fun X=>List.take_left' hL
     have ht1:∀ X,(kS S'++X).take (S'.length*2+1)=kS S'++X.take 1:=fun X=>by
      rw[List.take_append,List.take_of_length_le (by omega),hL];congr 2;omega
     have hpos:((0:Int)<(S'.length:Int)+1)=True:=eq_true (by omega)
     have hroom:=hS.room
     have hroomM:=hS.roomM
     rw[List.length_cons]at hroom
     have hlc:(((S'.length:Int)+1-1)=(S'.length:Int)):=by omega
     push_cast -dsimp [uy,hlc,hpos]
     repeat refine an ?_
     generalize hpad:List.replicate ((cap-(S'.length+1))*2) C.any=pad
     have hps:(pad.all C.stayB)=true:=by rw[←hpad];simp[List.all_replicate,C.stayB]
     have hst1:((kS S'++(lvC (ns1,es1)++pad)).all C.stayB)=true:=by rw[List.all_append,Zo,List.all_append,hps];rfl
     have hpl:pad.length=(cap-(S'.length+1))*2:=by rw[←hpad];simp
     refine loop (fun p:List zZ×Nat=>⟨[(0,.sc (.func (.yield l) #[] #[])),(1,.row (fsC f)),(7,.bs 1 0 2 (S'.length+1) cap),(8,.ptr 1 (S'.length*2))],[[.any,.any,.any,.any,.any,.any],kS S'++([.sl 1 (jq ns1),.sl 2 (zJ p.1)]++pad)],0,p.2⟩) (fun p=>YG f tr IT sf ((ns1,p.1) :: S') p.2 cap/\2*(IT.length-p.2)<=2*(IT.length-k)) (fun p=>p.1.length) (es1,k) ⟨hS,Nat.le_refl _⟩ ?_ ?_
     ·exact JP.mk [] rfl rfl (Nat.zero_le _) rfl (by push_cast -dsimp [ze,zd,CLe,zg]) (by push_cast -dsimp [ze,zd,CLe,zg,List.append_assoc];exact zT hst1)
     ·rintro ⟨es,k1⟩ ⟨hT,hkk⟩
      dsimp only at hT hkk ⊢
      cases es with
      | nil =>
       push_cast -dsimp [hd0,hd1,hd2,ht0,ht1,hlc]
       refine ⟨by omega,by omega,⟨by omega,by omega⟩,(S',k1,cap),hT.pop,by dsimp only;omega,JP.mk [] rfl rfl (Nat.zero_le _) rfl (by push_cast -dsimp [ze,zd,CLe,zg]) ?_⟩
       push_cast -dsimp [ze,zd,CLe,zg]
       exact zdx (zT (Zo S')) (Xv (by simp[hpl];omega))
      | cons e r =>
       obtain ⟨y,hy,hym,hk1,hbd,hnext⟩:=hT.next ht hf h3
       have hrl:((0:Int)<(r.length:Int)+1)=True:=eq_true (by omega)
       have hlr:(zJ r).length=r.length:=List.length_map ..
       have hhe:zn e.ino f.xs=true:=(hT.has (ns1,e :: r) List.mem_cons_self).2 e List.mem_cons_self
       have hgy:zh e.ino f.xs=y:=hy.symm
       have hb1:ns1.length+1<=1000000:=by have:=hbd.1;simpa using this
       have hb2:(Lib.join (ns1++[e.name]) [47]).length<=1000000:=hbd.2
       have hst2:(jq ns1).length=ns1.length:=List.length_map ..
       push_cast -dsimp [hd0,hd1,hd2,ht0,ht1,hlc,hlr,hrl,hst2,List.append_assoc,List.take_length]
       repeat refine an ?_
       refine cl (jY f e.ino (by omega) hR) ?_;push_cast -dsimp [hgy,hhe]
       refine cl (Qc (ns1++[e.name]) (by simp;omega) (by omega)) ?_;push_cast -dsimp [hk1]
       refine ⟨by push_cast -dsimp [ze,zd,CLe,zg],hT.go,br (fun hs1=>?_) (fun hs1=>?_)⟩
       ·push_cast -dsimp
        exact .inr ⟨Nat.succ_pos _,hs1⟩
       ·obtain ⟨w1,w2⟩:=hnext hs1
        by_cases k2:y.kind=2
        ·have hSk:=hT.pos
         have hkl:=hT.le
         rw[List.length_cons]at hSk
         have hc1:(kS S'++C.sl 1 (jq ns1) :: C.sl 2 (List.map Na r) :: pad).length=cap*2:=by
          rw[List.length_append,hL,List.length_cons,List.length_cons,hpl];omega
         have hc2:(kS S'++C.sl 1 (jq ns1) :: C.sl 2 (List.map Na r) :: pad).take ((S'.length+1)*2)=kS S'++[C.sl 1 (jq ns1),C.sl 2 (List.map Na r)]:=by
          rw[List.take_append,List.take_of_length_le (by omega),hL,show (S'.length+1)*2-S'.length*2=2 by omega];rfl
         push_cast -dsimp [k2]
         refine zqQ (kS S'++[C.sl 1 (jq ns1),C.sl 2 (List.map Na r)]++[C.sl 1 (jq (ns1++[e.name])),C.sl 2 (zJ y.es)]) rfl rfl (by decide) rfl (by decide) (Nat.zero_le _) hc1 hroom hroomM (by omega) (by omega) (by rw[hc2];exact zB (by rw[List.all_append,List.all_append,Zo];rfl)) (fun c' g1 g2=>?_)
         have hw:=w1 c' (by omega) g2
         have hwl:=hw.le
         push_cast -dsimp [k2]
         refine ⟨((ns1++[e.name],y.es) :: (ns1,r) :: S',k1+1,c'),hw,by simp only[List.length_cons];omega,JP.mk [] rfl rfl (Nat.zero_le _) rfl (by push_cast -dsimp [ze,zd,CLe,zg]) ?_⟩
         push_cast -dsimp [ze,zd,CLe,zg,uy,List.append_assoc]
         exact zT (by rw[List.all_append,Zo];simp[List.all_replicate,C.stayB])
        ·push_cast -dsimp [k2]
         have hz:=w2 (h2 y hym k2)
         have hle:=hz.le
         refine ⟨(r,k1+1),⟨hz,by dsimp only;omega⟩,by dsimp only;simp,JP.mk [] rfl rfl (Nat.zero_le _) rfl (by push_cast -dsimp [ze,zd,CLe,zg]) ?_⟩
         push_cast -dsimp [ze,zd,CLe,zg,List.append_assoc]
         exact zT (by rw[List.all_append,Zo,List.all_cons,List.all_cons,hps];rfl)
end
section
open CA CB
open Go.RowKit
structure zeJ (f:FsV) (tr:Int->List (List UInt8)->JK):Prop where
 tree:v6 f tr
 few:VS f.xs
 rise:z7 f.xs
 third:Yt f
 leaf:∀ x∈f.xs,x.kind≠2->x.es = []
structure yQ (tr:Int->List (List UInt8)->JK) (ino:Int) (ns:List (List UInt8)):Prop where
 len:(tr ino ns).length<=1000000
 bound:∀ p∈tr ino ns,Z9 p
abbrev zgv (l:JK):List (List C):=l.map Un
theorem zid {l:JK} {k:Nat} {it:List C} (h:(zgv l)[k]?=some it):∃ p,l[k]?=some p/\it=Un p:=by
 rw[List.getElem?_map]at h
 cases hq:l[k]? with
 | none=>rw[hq]at h;cases h
 | some x=>rw[hq]at h;cases h;exact ⟨x,rfl,rfl⟩
theorem zlj {f:FsV} {tr:Int->List (List UInt8)->JK} {ino:Int} {ns:List (List UInt8)} (hw:zeJ f tr) (hs:yQ tr ino ns):xz Tryz.prog G0 157 [] [.row (fsC f),.row [.sc (.int .i64 ino)],.row [.sl 1 (jq ns)]] [] (zgv (tr ino ns)):=
 zaD f ino ns tr hw.tree hw.few hw.rise hw.third hw.leaf hs.len hs.bound
theorem zjq (f:FsV) (ino:Int) (ns:List (List UInt8)):Fun Tryz.prog G0 116 [.agg (fsC f),.sc (.int .i64 ino),.sl 1 (jq ns)] (.clo (.func 157) [] [.row (fsC f),.row [.sc (.int .i64 ino)],.row [.sl 1 (jq ns)]]) 0:=by
 refine fon Tryz.func116 ?_;dsimp only[Tryz.f116]
 push_cast -dsimp
 exact dn
theorem zld (f:FsV):Fun Tryz.prog G0 77 [.agg (fsC f)] (.clo (.func 157) [] [.row (fsC f),.row [.sc (.int .i64 1)],.row [.sl 1 (jq [])]]) 0:=by
 refine fon Tryz.func77 ?_;dsimp only[Tryz.f77]
 push_cast -dsimp
 refine call (Fun.less (zjq f 1 []) (by push_cast -dsimp [ze,zd,CLe,zg])) ?_
 push_cast -dsimp
 exact dn
def kh (n:Int) (l:JK):List (List UInt8):=(l.filter fun p=>decide (p.2.ino=n)).map fun p=>jh p.1
def kT (n:Int) (l:JK):Option (List UInt8):=(l.find? fun p=>decide (p.2.ino=n)&&decide (p.2.kind=2)).map fun p=>jh p.1
theorem yN (f:FsV) (n:Int) (tr:Int->List (List UInt8)->JK) (hw:zeJ f tr) (hs:yQ tr 1 []) :
  Fun Tryz.prog G0 43 [.agg (fsC f),.sc (.int .i64 n)] (.tup [.str ((kT n (tr 1 [])).getD []),.sc (.bool (kT n (tr 1 [])).isSome)]) 0:=by
 refine fon Tryz.func43 ?_;dsimp only[Tryz.f43]
 push_cast -dsimp
 refine cl (zld f) ?_;push_cast -dsimp
 have hl:=hs.len
 have hit:=zlj hw hs
 generalize tr 1 []=l at hit hl
 refine range (zgv l) (fun k=>match l[k]? with | some p=>decide (p.2.ino=n)&&decide (p.2.kind=2) | none=>false) 4 (fun k=>⟨[],[[.any,.any,.any,.any],[.sc (.int .i64 n)],[.any],[.any]],0,0⟩) hit (by push_cast -dsimp) (by push_cast -dsimp) (by push_cast -dsimp) (Nat.zero_le _) (by push_cast -dsimp) (fun it h=>?_) (fun k _=>rfl) ?_ (fun k it hk hsf=>?_) (fun hsf=>?_)
 ·obtain ⟨x,_,rfl⟩:=List.mem_map.1 h;rfl
 ·exact wk
 ·obtain ⟨x,hx2,rfl⟩:=zid hk
  have hfirst:(decide (x.2.ino=n)&&decide (x.2.kind=2))=true->kT n l=some (jh x.1):=fun hb=>by
   obtain ⟨hkl,hxe⟩:=List.getElem?_eq_some_iff.1 hx2
   unfold kT
   rw[List.find?_eq_some_iff_getElem (b:=x) |>.2 ⟨hb,k,hkl,hxe,fun j hj=>?_⟩]
   ·rfl
   ·have:=hsf j hj
    rw[List.getElem?_eq_getElem (by omega)]at this
    simp only[this];rfl
  by_cases c1:x.2.ino=n
  ·by_cases c2:x.2.kind=2
   ·have hd:=hfirst (by simp[c1,c2])
    push_cast -dsimp [c1,c2]
    refine ⟨by rw[hx2];simp[c1,c2],⟨[],[[.any,.any,.any,.any],[.sc (.int .i64 n)],[.str (jh x.1)],[.sc (.bool true)]],0,0⟩,rfl,wk,?_⟩
    push_cast -dsimp [hd]
    exact dn (by push_cast -dsimp [ze,zd,CLe,zg,hd,Option.getD_some,Option.isSome_some])
   ·push_cast -dsimp [c1,c2]
    refine ⟨by rw[hx2];simp[c2],wk⟩
  ·push_cast -dsimp [c1]
   refine ⟨by rw[hx2];simp[c1],wk⟩
 ·have hnone:kT n l=none:=by
   unfold kT
   rw[Option.map_eq_none_iff,List.find?_eq_none]
   intro x hx
   obtain ⟨k,hk,rfl⟩:=List.getElem_of_mem hx
   have:=hsf k (by simpa using hk)
   rw[List.getElem?_eq_getElem hk]at this
   simpa only[Bool.not_eq_true] using this
  push_cast -dsimp [hnone]
  exact dn (by push_cast -dsimp [ze,zd,CLe,zg,Option.getD_none,Option.isSome_none])
end
section
inductive Dep (xs:List zp):Nat->Int->Prop
 | root:Dep xs 0 1
 | step {k:Nat} {n:Int} {e:zZ}:Dep xs k n->zn n xs=true->e∈(zh n xs).es->Dep xs (k+1) e.ino
theorem qU {f:FsV} (h:okV f):VS f.xs/\Jv f/\YF f/\Yt f/\YO f/\QC f/\kZ f:=by
 obtain ⟨h0,h⟩:=h
 unfold JL at h
 refine ⟨h0,?_⟩
 split at h
 ·split at h
  ·split at h
   ·split at h
    ·split at h
     ·split at h
      ·exact ⟨by assumption,by assumption,by assumption,by assumption,by assumption,by assumption⟩
      ·cases h
     ·cases h
    ·cases h
   ·cases h
  ·cases h
 ·cases h
theorem GG {es:List zZ}:∀ {S:List Int} {n:Int},n∈kL S es↔n∈S∨∃ e∈es,e.ino=n:=by
 induction es with
 | nil=>intro S n;simp[kL]
 | cons e r ih =>
  intro S n
  show n∈kL (Yr S e.ino) r↔_
  rw[ih,Hg]
  constructor
  ·rintro ((h | h) | ⟨e',he,h⟩)
   ·exact .inl h
   ·exact .inr ⟨e,List.mem_cons_self,h.symm⟩
   ·exact .inr ⟨e',List.mem_cons_of_mem _ he,h⟩
  ·rintro (h | ⟨e',he,h⟩)
   ·exact .inl (.inl h)
   ·rcases List.mem_cons.1 he with rfl | he
    ·exact .inl (.inr h.symm)
    ·exact .inr ⟨e',he,h⟩
theorem M9 {xs:List zp} {es:List zZ}:∀ {S:List Int},Yx xs S->(∀ e∈es,zn e.ino xs=true)->Yx xs (kL S es):=by
 induction es with
 | nil=>intro S h _;exact h
 | cons e r ih=>intro S h he;exact ih (h.one (he e List.mem_cons_self)) fun e' h'=>he e' (List.mem_cons_of_mem _ h')
theorem Nd {xs:List zp} (h3:∀ x∈xs,∀ e∈x.es,zn e.ino xs=true):∀ (m i:Nat) (S:List Int),Yx xs S->(∀ n∈S,∃ k,Dep xs k n)->Yx xs (QY xs m i S)/\∀ n∈QY xs m i S,∃ k,Dep xs k n
 | 0,i,S,h,hd=>by unfold QY;exact ⟨h,hd⟩
 | m+1,i,S,h,hd=>by
  unfold QY
  split
  ·rename_i n hn
   have hmem:=List.mem_of_getElem? hn
   have hh:=h.has n hmem
   obtain ⟨hm,_⟩:=jt hh
   obtain ⟨k,hk⟩:=hd n hmem
   refine Nd h3 m (i+1) _ (M9 h fun e he=>h3 _ hm e he) fun n' hn'=>?_
   rcases GG.1 hn' with h' | ⟨e,he,rfl⟩
   ·exact hd n' h'
   ·exact ⟨k+1,.step hk hh he⟩
  ·exact ⟨h,hd⟩
theorem zez {S T:List Int} (hS:S.Nodup) (hs:∀ n∈S,n∈T) (hl:T.length<=S.length):∀ n∈T,n∈S:=by
 intro n hn
 by_cases h:n∈S
 ·exact h
 ·exfalso
  have:=V4 (S:=n :: S) (T:=T) (List.nodup_cons.2 ⟨h,hS⟩) fun m hm=>by
   rcases List.mem_cons.1 hm with rfl | hm
   ·exact hn
   ·exact hs m hm
  rw[List.length_cons]at this;omega
theorem yC {f:FsV} (h:okV f) {n:Int} (hn:zn n f.xs=true):∃ k,Dep f.xs k n:=by
 obtain ⟨_,h1,_,h3,_,h5,_⟩:=qU h
 have hroot:Yx f.xs [1]:=⟨by simp,fun n hn=>by simp at hn;subst hn;exact h1.2.2.2.2.2.2.2.1⟩
 obtain ⟨g1,g2⟩:=Nd h3 (f.xs.length+1) 0 [1] hroot fun n hn=>by simp at hn;subst hn;exact ⟨0,.root⟩
 have hS:=zez (T:=f.xs.map (·.ino)) g1.nodup (fun m hm=>No.1 (g1.has m hm)) (by rw[List.length_map];exact Nat.le_of_eq h5.symm) n (No.1 hn)
 exact g2 n hS
theorem Zl {xs:List zp} {n:Int} {e:zZ} (hh:zn n xs=true) (he:e∈(zh n xs).es):(e.ino,n)∈qp xs:=by
 obtain ⟨hm,hi⟩:=jt hh
 unfold qp
 exact List.mem_flatMap.2 ⟨_,hm,List.mem_map.2 ⟨e,he,by rw[hi]⟩⟩
theorem zkp {n p:Int} {l:List (Int×Int)} (h:(n,p)∈l):1<=Q5 n l:=by
 unfold Q5
 exact List.length_pos_iff.2 (List.ne_nil_of_mem (List.mem_filter.2 ⟨h,by simp⟩))
theorem xX {n p q:Int} {l:List (Int×Int)} (hp:(n,p)∈l) (hq:(n,q)∈l) (h:Q5 n l=1):p=q:=by
 unfold Q5 at h
 obtain ⟨x,hx⟩:=List.length_eq_one_iff.1 h
 have h1:(n,p)∈l.filter fun p=>p.1==n:=List.mem_filter.2 ⟨hp,by simp⟩
 have h2:(n,q)∈l.filter fun p=>p.1==n:=List.mem_filter.2 ⟨hq,by simp⟩
 rw[hx]at h1 h2
 simp only[List.mem_singleton]at h1 h2
 exact congrArg Prod.snd (h1.trans h2.symm)
theorem Hs {f:FsV} (h:okV f) {n:Int} (hh:zn n f.xs=true) {e:zZ} (he:e∈(zh n f.xs).es):(zh n f.xs).kind=2:=by
 obtain ⟨_,_,h2,_⟩:=qU h
 obtain ⟨hm,_⟩:=jt hh
 by_cases hk:(zh n f.xs).kind=2
 ·exact hk
 ·have:=((h2 _ hm).2.1 hk).1
  rw[this]at he;cases he
theorem Jh {f:FsV} (h:okV f) {n:Int} (hh:zn n f.xs=true) {e:zZ} (he:e∈(zh n f.xs).es):e.ino≠1:=fun h1=>by
 obtain ⟨_,hf,_,_,h4,_⟩:=qU h
 obtain ⟨hm,hi⟩:=jt hf.2.2.2.2.2.2.2.1
 have hq:=(h4 _ hm).2
 rw[if_pos hi,hi]at hq
 have:=zkp (Zl hh he)
 rw[h1]at this;omega
theorem Z7 {f:FsV} (h:okV f):∀ (k k':Nat) (n:Int),Dep f.xs k n->Dep f.xs k' n->zn n f.xs=true->(zh n f.xs).kind=2->k=k'
 | 0,0,_,_,_,_,_=>rfl
 | 0,k'+1,_,h1,h2,hh,hk=>by
  cases h1
  generalize hn:(1:Int)=n at h2
  cases h2 with
  | step a b c=>exact absurd hn.symm (Jh h b c)
 | k+1,0,_,h1,h2,hh,hk=>by
  cases h2
  generalize hn:(1:Int)=n at h1
  cases h1 with
  | step a b c=>exact absurd hn.symm (Jh h b c)
 | k+1,k'+1,n,h1,h2,hh,hk=>by
  obtain ⟨_,hf,_,_,h4,_⟩:=qU h
  cases h1 with
  | @step _ p e a b c =>
   generalize hn:e.ino=n at h2 hh hk
   cases h2 with
   | @step _ p' e' a' b' c' =>
    have hp:=Zl b c
    have hp':=Zl b' c'
    rw[hn]at hp
    obtain ⟨hm,hi⟩:=jt hh
    have hq:=(h4 _ hm).2
    rw[hi]at hq
    have hne:e'.ino≠1:=Jh h b' c'
    rw[if_neg hne]at hq
    have:=xX hp hp' (hq.2 hk).1
    subst this
    rw[Z7 h k k' p a a' b (Hs h b c)]
end
section
theorem X7 (n:Int):∀ xs:List zp,Q5 n (qp xs)=JU n xs
 | []=>rfl
 | x :: r=>by
  have ih:=X7 n r
  unfold JU Nv at ih ⊢
  unfold qp at ih ⊢
  rw[List.flatMap_cons,List.map_cons,List.sum_cons,←ih]
  unfold Q5 JV
  rw[List.filter_append,List.length_append]
  congr 1
  induction x.es with
  | nil=>rfl
  | cons e es ie =>
   unfold Z4 at ie ⊢
   rw[List.map_cons,List.filter_cons,List.filter_cons]
   by_cases h:e.ino=n
   ·simp only[h,beq_self_eq_true,if_true,decide_true,List.length_cons,ie]
   ·simp only[show (e.ino==n)=false from beq_eq_false_iff_ne.2 h,decide_eq_false h,Bool.false_eq_true,if_false,ie]
theorem Vy {f:FsV} (h:JL f=0):Jv f/\YF f/\Yt f/\YO f/\QC f/\kZ f:=by
 unfold JL at h
 split at h
 ·split at h
  ·split at h
   ·split at h
    ·split at h
     ·split at h
      ·exact ⟨by assumption,by assumption,by assumption,by assumption,by assumption,by assumption⟩
      ·cases h
     ·cases h
    ·cases h
   ·cases h
  ·cases h
 ·cases h
theorem Mi {es:List zZ} (h:YV es):Jy es:=by
 have hadj:∀ i (h1:i+1<es.length),Op.bytesLess es[i].name es[i+1].name=true:=fun i h1=>(h (i+1) h1).2.2 (by omega)
 have key:∀ (d i:Nat) (h1:i+d+1<es.length),Op.bytesLess (es[i]'(by omega)).name es[i+d+1].name=true:=by
  intro d
  induction d with
  | zero=>intro i h1;exact hadj i h1
  | succ d ih=>intro i h1;exact Gh (ih i (by omega)) (hadj (i+d+1) (by omega))
 refine List.pairwise_iff_getElem.2 fun i j hi hj hij=>?_
 have:=key (j-i-1) i (by omega)
 have e:i+(j-i-1)+1=j:=by omega
 simp only[e]at this
 exact this
theorem M7 {f:FsV} (h:JL f=0):FsI f:=by
 obtain ⟨h1,h2,h3,h4,h5,h6⟩:=Vy h
 obtain ⟨a1,a2,a3,a4,a5,a6,a7,a8,a9⟩:=h1
 refine ⟨a7,a6,fun x hx=>(h2 x hx).1,fun x hx=>?_,fun x hx hk=>((h2 x hx).2.1 hk).1,h3,fun x hx=>?_,a8,a9,?_⟩
 ·by_cases hk:x.kind=2
  ·exact Mi ((h2 x hx).2.2.1 hk).2
  ·rw[((h2 x hx).2.1 hk).1];exact List.Pairwise.nil
 ·rw[(h4 x hx).1,X7]
 ·obtain ⟨b1,b2⟩:=jt a8
  have q:=(h4 _ b1).2
  rw[b2,if_pos rfl,X7]at q
  exact q.1
theorem zpi {w:qg} (h:okW w):J9 w:=by
 obtain ⟨h1,h2,h3,h4,h5⟩:=h.2
 exact ⟨M7 h1,h4.1,h2,fun x hx=>⟨(h3 x hx).1,(h3 x hx).2.2.1⟩⟩
theorem zf1 {w:qg} (h:okW w):xx 40 w:=by
 obtain ⟨⟨g1,g2,g3,g4⟩,h1,_⟩:=h
 obtain ⟨a1,a2,a3,a4,a5,_⟩:=(Vy h1).1
 exact ⟨g2.1,fun x hx=>by obtain ⟨q1,q2,q3⟩:=g2.2 x hx;exact ⟨q2,q1,q3⟩,g4,g1,g3.1,fun x hx=>by obtain ⟨q1,q2,q3⟩:=g3.2 x hx;exact ⟨q2,q1,q3⟩,by omega,by omega⟩
theorem xx.s {N:Nat} {w:qg} (h:xx N w) (hi:J9 w) (hN:N<=10000):V1 w:=by
 have hr:=xQ hi.fs
 have hn:=h.next
 exact ⟨⟨by have:=h.len;omega,fun x hx=>by obtain ⟨q1,q2,q3⟩:=h.node x hx;exact ⟨by omega,by omega,fun e he=>by have:=q3 e he;omega⟩⟩,⟨by omega,by omega⟩,by have:=h.klen;omega,by have:=h.plen;omega⟩
def XL (d:qM) (i:Nat) (o:OpV):qM:=
 if o.kind<1 then d else if (Jt d o).2=0 then (Jt d o).1 else YZ d (YN (1+((i % 5:Nat):Int)) (1+((i % 22:Nat):Int)) o.a o.b (Jt d o).2)
def mkD (w:qg) (l:List OpV):Nat->qM
 | 0=>zcu w
 | i+1=>match l[i]? with
  | some o=>XL (mkD w l i) i o
  | none=>mkD w l i
structure OpS (o:OpV):Prop where
 a:o.a.length<=1000
 b:o.b.length<=1000
 d:o.d.length<=5000
structure XJ (N:Nat) (d:qM):Prop where
 wi:J9 d.w
 wb:xx (40+N) d.w
 ops:d.ops.length<=N
 diags:d.diags.length<=N
 slot:0<=d.slot/\d.slot<=1073741824+N
theorem XJ.s {N:Nat} {d:qM} (h:XJ N d) (hN:N<=9000):Zn d:=
 ⟨h.wi,h.wb.s h.wi (by omega),by have:=h.ops;omega,by have:=h.diags;omega,h.slot.1,by have:=h.slot.2;omega⟩
theorem XJ.up {N:Nat} {d:qM} (h:XJ N d):XJ (N+1) d:=⟨h.wi,h.wb.up,by have:=h.ops;omega,by have:=h.diags;omega,h.slot.1,by have:=h.slot.2;omega⟩
theorem UR {d:qM} {o:OpV} (h:(Jt d o).2≠0):(Jt d o).1=d:=by
 unfold Jt at h ⊢
 split
 ·rfl
 ·split
  ·rfl
  ·rename_i h1 h2;rw[if_neg h1,if_neg h2]at h;exact absurd rfl h
theorem znZ {N:Nat} {d:qM} (h:XJ N d) {o:OpV} (ho:o.d.length<=5000):XJ (N+1) (Jt d o).1:=by
 by_cases hz:(Jt d o).2=0
 case neg=>rw[UR hz];exact h.up
 unfold Jt at hz ⊢
 split at hz
 ·exact absurd hz (show ¬(12:Int)=0 by decide)
 rename_i hk
 rw[if_neg hk]
 split at hz
 ·rename_i hd;exact absurd hz hd
 rename_i hd
 rw[if_neg hd]
 have hs:=h.slot
 have hk7:(jv d o).kind<=7:=by show o.kind<=7;omega
 refine ⟨zpO h.wi _ hk7,doB h.wi h.wb _ ho hk7,by simp;exact h.ops,by have:=h.diags;simp only;omega,?_⟩
 simp only
 unfold jv
 simp only
 split<;>split<;>omega
theorem zkK {N:Nat} {d:qM} (h:XJ N d) {i:Nat} {o:OpV} (ho:o.d.length<=5000):XJ (N+1) (XL d i o):=by
 unfold XL
 split
 ·exact h.up
 ·split
  ·exact znZ h ho
  ·have:=h.up
   exact ⟨this.wi,this.wb,this.ops,by unfold YZ;simp;exact h.diags,this.slot⟩
theorem zcK {w:qg} (h:okW w) (hl:jy w.kept<=1073741824) {l:List OpV} (hd:∀ o∈l,o.d.length<=5000):∀ i,XJ i (mkD w l i)
 | 0=>⟨zpi h,zf1 h,Nat.zero_le _,Nat.zero_le _,(UO h.2.2.2.2.1).1,by show jy w.kept<=_;omega⟩
 | i+1=>by
  have ih:=zcK h hl hd i
  show XJ (i+1) (match l[i]? with | some o=>XL (mkD w l i) i o | none=>mkD w l i)
  cases hg:l[i]? with
  | none=>exact ih.up
  | some o=>exact zkK ih (hd o (List.mem_of_getElem? hg))
theorem zjx {w:qg} {l:List OpV} {i:Nat} (h:i<l.length):mkD w l (i+1)=XL (mkD w l i) i l[i]:=by
 show (match l[i]? with | some o=>XL (mkD w l i) i o | none=>mkD w l i)=_
 rw[List.getElem?_eq_getElem h]
end
section
theorem NY {f:FsV} (h:okV f):∀ (k:Nat) (n:Int),Dep f.xs k n->zn n f.xs=true->(zh n f.xs).kind=2->∃ L:List Int,L.length=k+1/\L.Nodup/\(∀ m∈L,zn m f.xs=true)/\∀ m∈L,(zh m f.xs).kind=2/\∃ j,j<=k/\Dep f.xs j m
 | 0,n,hd,hh,hk=>⟨[n],rfl,by simp,fun m hm=>by simp at hm;subst hm;exact hh,fun m hm=>by simp at hm;subst hm;exact ⟨hk,0,Nat.le_refl _,hd⟩⟩
 | k+1,_,hd,hh,hk=>by
  generalize hn:k+1=k1 at hd
  cases hd with
  | root=>cases hn
  | @step k0 p e a b c =>
   obtain rfl:k=k0:=by omega
   obtain ⟨L,l1,l2,l3,l4⟩:=NY h k p a b (Hs h b c)
   refine ⟨e.ino :: L,by simp[l1],List.nodup_cons.2 ⟨fun hm=>?_,l2⟩,fun m hm=>?_,fun m hm=>?_⟩
   ·obtain ⟨_,j,hj,hd⟩:=l4 _ hm
    have:=Z7 h _ _ _ hd (.step a b c) hh hk
    omega
   ·rcases List.mem_cons.1 hm with rfl | hm
    ·exact hh
    ·exact l3 m hm
   ·rcases List.mem_cons.1 hm with rfl | hm
    ·exact ⟨hk,k+1,Nat.le_refl _,.step a b c⟩
    ·obtain ⟨q1,j,q2,q3⟩:=l4 m hm
     exact ⟨q1,j,by omega,q3⟩
theorem zed {f:FsV} (h:okV f) {k:Nat} {n:Int} (hd:Dep f.xs k n) (hh:zn n f.xs=true) (hk:(zh n f.xs).kind=2):k<f.xs.length:=by
 obtain ⟨L,l1,l2,l3,_⟩:=NY h k n hd hh hk
 have:=ZB l2 l3
 omega
def jp (xs:List zp):Nat->Int->List (List UInt8)->JK
 | 0,_,_=>[]
 | m+1,n,ns=>if zn n xs then (ns,zh n xs) :: (zh n xs).es.flatMap (fun e=>jp xs m e.ino (ns++[e.name])) else []
theorem Qz {α β:Type} {l:List α} {g g':α->List β} (h:∀ a∈l,g a=g' a):l.flatMap g=l.flatMap g':=by
 induction l with
 | nil=>rfl
 | cons a r ih=>rw[List.flatMap_cons,List.flatMap_cons,h a List.mem_cons_self,ih fun b hb=>h b (List.mem_cons_of_mem _ hb)]
theorem N8 {f:FsV} (h:okV f):∀ (m m' k:Nat) (n:Int) (ns:List (List UInt8)),Dep f.xs k n->k<=f.xs.length->f.xs.length+1<=m+k->f.xs.length+1<=m'+k->jp f.xs m n ns=jp f.xs m' n ns
 | 0,m',k,n,ns,hd,hk,h1,h2=>by omega
 | m+1,0,k,n,ns,hd,hk,h1,h2=>by omega
 | m+1,m'+1,k,n,ns,hd,hk,h1,h2=>by
  unfold jp
  split
  ·rename_i hh
   congr 1
   refine Qz fun e he=>?_
   have hdir:=Hs h hh he
   have hlt:=zed h hd hh hdir
   exact N8 h m m' (k+1) e.ino _ (.step hd hh he) (by omega) (by omega) (by omega)
  ·rfl
abbrev trV (xs:List zp):Int->List (List UInt8)->JK:=jp xs (xs.length+1)
theorem zjU {f:FsV} (h:okV f) {n:Int} (hh:zn n f.xs=true):∃ k,k<=f.xs.length/\Dep f.xs k n:=by
 obtain ⟨k,hd⟩:=yC h hh
 refine ⟨k,?_,hd⟩
 cases hd with
 | root=>exact Nat.zero_le _
 | step a b c=>exact zed h a b (Hs h b c)
theorem zl9 {f:FsV} (h:okV f):v6 f (trV f.xs):=⟨fun n ns hh=>by
 obtain ⟨k,hk,hd⟩:=zjU h hh
 show jp f.xs (f.xs.length+1) n ns=_
 rw[jp,if_pos hh]
 congr 1
 refine Qz fun e he=>?_
 have hlt:=zed h hd hh (Hs h hh he)
 exact N8 h _ _ (k+1) e.ino _ (.step hd hh he) (by omega) (by omega) (by omega),fun n ns hh=>by
 show jp f.xs (f.xs.length+1) n ns=_
 rw[jp,if_neg (by rw[hh];decide)]⟩
theorem zlh {f:FsV} (h:okV f):zeJ f (trV f.xs):=by
 obtain ⟨p0,p1,p2,p3,_⟩:=qU h
 exact ⟨zl9 h,p0,p1.2.2.2.2.2.2.1,p3,fun x hx hk=>((p2 x hx).2.1 hk).1⟩
end
section
theorem zaM (ns:List (List UInt8)) (x:List UInt8) (hne:∀ y∈ns,y≠[]):jh (ns++[x])=vP (jh ns) x:=by
 have hj:=xj (ns++[x]) ns.length x (by simp)
 rw[List.take_of_length_le (by simp),List.take_left' rfl]at hj
 unfold jh
 rw[if_neg (by simp),hj]
 by_cases h:ns = []
 ·subst h;rfl
 ·have hl:ns.length≠0:=fun h0=>h (List.eq_nil_of_length_eq_zero h0)
  rw[if_neg hl,if_neg h]
  have hne47:(47 :: Lib.join ns [47])≠[47]:=fun he=>by
   have h1:Lib.join ns [47] = []:=(List.cons.inj he).2
   have h2:=Qh ns h
   rw[h1]at h2
   cases ns with
   | nil=>exact h rfl
   | cons y r =>
    have:=List.length_pos_iff.2 (hne y List.mem_cons_self)
    simp at h2;omega
  unfold vP
  rw[if_neg hne47]
  simp
end
section
inductive Anc (xs:List zp) (n:Int):Nat->Int->Prop
 | same:Anc xs n 0 n
 | step {j:Nat} {p:Int} {e:zZ}:Anc xs n j p->zn p xs=true->e∈(zh p xs).es->Anc xs n (j+1) e.ino
theorem Anc.dep {xs:List zp} {n:Int} {k:Nat} (hd:Dep xs k n):∀ {j:Nat} {d:Int},Anc xs n j d->Dep xs (k+j) d
 | _,_,.same=>hd
 | _,_,.step a b c=>.step (a.dep hd) b c
theorem Anc.up {xs:List zp} {n:Int} {e:zZ} (hh:zn n xs=true) (he:e∈(zh n xs).es):∀ {j:Nat} {d:Int},Anc xs e.ino j d->Anc xs n (j+1) d
 | _,_,.same=>.step .same hh he
 | _,_,.step a b c=>.step (a.up hh he) b c
theorem Xd {xs:List zp}:∀ (m:Nat) (n:Int) (ns:List (List UInt8)),∀ p∈jp xs m n ns,∃ j,Anc xs n j p.2.ino/\zn p.2.ino xs=true/\zh p.2.ino xs=p.2
 | 0,n,ns,p,hp=>by cases hp
 | m+1,n,ns,p,hp=>by
  unfold jp at hp
  split at hp
  ·rename_i hh
   obtain ⟨_,hi⟩:=jt hh
   rcases List.mem_cons.1 hp with rfl | hp
   ·exact ⟨0,by rw[hi];exact .same,by rw[hi];exact hh,by rw[hi]⟩
   ·obtain ⟨e,he,hp⟩:=List.mem_flatMap.1 hp
    obtain ⟨j,q1,q2⟩:=Xd m _ _ p hp
    exact ⟨j+1,q1.up hh he,q2⟩
  ·cases hp
theorem zaa {f:FsV} (h:okV f) {a b:Int}:∀ (j:Nat) (d:Int),Anc f.xs a j d->Anc f.xs b j d->zn d f.xs=true->(zh d f.xs).kind=2->a=b/\zn a f.xs=true/\(zh a f.xs).kind=2
 | 0,d,h1,h2,hh,hk=>by
  cases h1;cases h2
  exact ⟨rfl,hh,hk⟩
 | j+1,d,h1,h2,hh,hk=>by
  obtain ⟨_,_,_,_,h4,_⟩:=qU h
  cases h1 with
  | @step _ p e x y z =>
   generalize hn:e.ino=d at h2 hh hk
   cases h2 with
   | @step _ p' e' x' y' z' =>
    have hp:=Zl y z
    have hp':=Zl y' z'
    rw[hn]at hp
    obtain ⟨hm,hi⟩:=jt hh
    have hq:=(h4 _ hm).2
    rw[hi,if_neg (Jh h y' z')]at hq
    have:=xX hp hp' (hq.2 hk).1
    subst this
    exact zaa h j p x x' y (Hs h y z)
theorem zkB {xs:List zp} {n:Int} {e e':zZ} (hh:zn n xs=true) (hs:[e,e'].Sublist (zh n xs).es) (hi:e.ino=e'.ino):2<=Q5 e.ino (qp xs):=by
 obtain ⟨hm,hino⟩:=jt hh
 have h1:([e,e'].map fun e=>(e.ino,(zh n xs).ino)).Sublist (Z4 (zh n xs) (zh n xs).es):=hs.map _
 obtain ⟨i,hi',hx⟩:=List.getElem_of_mem hm
 have h2:(Z4 (zh n xs) (zh n xs).es).Sublist (qp xs):=by
  obtain ⟨s,t,hst⟩:=List.append_of_mem hm
  unfold qp
  conv=>rhs;rw[hst]
  rw[List.flatMap_append,List.flatMap_cons]
  exact (List.sublist_append_left _ _).trans (List.sublist_append_right _ _)
 have h3:=((h1.trans h2).filter fun p=>p.1==e.ino).length_le
 unfold Q5
 simpa [hi] using h3
abbrev YI (l:JK):List Int:=(l.filter fun p=>decide (p.2.kind=2)).map fun p=>p.2.ino
theorem V6 {l:JK} {d:Int} (h:d∈YI l):∃ p∈l,p.2.kind=2/\p.2.ino=d:=by
 obtain ⟨p,hp,rfl⟩:=List.mem_map.1 h
 obtain ⟨h1,h2⟩:=List.mem_filter.1 hp
 exact ⟨p,h1,of_decide_eq_true h2,rfl⟩
theorem Qk {f:FsV} (h:okV f):∀ (m:Nat) (n:Int) (ns:List (List UInt8)),zn n f.xs=true->(YI (jp f.xs m n ns)).Nodup
 | 0,n,ns,_=>List.nodup_nil
 | m+1,n,ns,hh=>by
  obtain ⟨k,hd⟩:=yC h hh
  obtain ⟨_,_,_,h3,h4,_⟩:=qU h
  obtain ⟨hm,hi⟩:=jt hh
  have key:∀ L:List zZ,L.Sublist (zh n f.xs).es->(YI (L.flatMap fun e=>jp f.xs m e.ino (ns++[e.name]))).Nodup:=by
   intro L
   induction L with
   | nil=>intro _;exact List.nodup_nil
   | cons e r ih =>
    intro hs
    have he:e∈(zh n f.xs).es:=hs.subset List.mem_cons_self
    have hr:r.Sublist (zh n f.xs).es:=(List.sublist_cons_self e r).trans hs
    have hap:YI ((e :: r).flatMap fun e=>jp f.xs m e.ino (ns++[e.name]))=YI (jp f.xs m e.ino (ns++[e.name]))++YI (r.flatMap fun e=>jp f.xs m e.ino (ns++[e.name])):=by
     rw[List.flatMap_cons];unfold YI;rw[List.filter_append,List.map_append]
    rw[hap,List.nodup_append]
    refine ⟨Qk h m e.ino _ (h3 _ hm e he),ih hr,fun d hd1 d' hd2 hdd=>?_⟩
    subst hdd
    obtain ⟨p,p1,p2,rfl⟩:=V6 hd1
    obtain ⟨p',p1',p2',p3'⟩:=V6 hd2
    obtain ⟨e',he',p1'⟩:=List.mem_flatMap.1 p1'
    obtain ⟨j,a1,a2,a3⟩:=Xd m _ _ p p1
    obtain ⟨j',b1,b2,b3⟩:=Xd m _ _ p' p1'
    rw[p3']at b1
    have hk:(zh p.2.ino f.xs).kind=2:=by rw[a3];exact p2
    have hdep:=Z7 h _ _ _ (a1.dep (.step hd hh he)) (b1.dep (.step hd hh (hr.subset he'))) a2 hk
    obtain rfl:j=j':=by omega
    obtain ⟨q1,q2,q3⟩:=zaa h j _ a1 b1 a2 hk
    have hs2:[e,e'].Sublist (zh n f.xs).es:=(List.Sublist.cons_cons e (List.singleton_sublist.2 he')).trans hs
    have h2:=zkB hh hs2 q1
    obtain ⟨hm2,hi2⟩:=jt q2
    have hq:=(h4 _ hm2).2
    rw[hi2,if_neg (Jh h hh he)]at hq
    have:=(hq.2 q3).1
    omega
  unfold jp
  rw[if_pos hh]
  by_cases hk:(zh n f.xs).kind=2
  ·have hc:YI ((ns,zh n f.xs) :: (zh n f.xs).es.flatMap fun e=>jp f.xs m e.ino (ns++[e.name]))=n :: YI ((zh n f.xs).es.flatMap fun e=>jp f.xs m e.ino (ns++[e.name])):=by
    unfold YI
    rw[List.filter_cons_of_pos (by simpa using hk),List.map_cons,hi]
   rw[hc,List.nodup_cons]
   refine ⟨fun hmem=>?_,key _ (List.Sublist.refl _)⟩
   obtain ⟨p,p1,p2,p3⟩:=V6 hmem
   obtain ⟨e,he,p1⟩:=List.mem_flatMap.1 p1
   obtain ⟨j,a1,a2,a3⟩:=Xd m _ _ p p1
   rw[p3]at a1
   have:=Z7 h _ _ _ (a1.dep (.step hd hh he)) hd hh hk
   omega
  ·have hc:YI ((ns,zh n f.xs) :: (zh n f.xs).es.flatMap fun e=>jp f.xs m e.ino (ns++[e.name]))=YI ((zh n f.xs).es.flatMap fun e=>jp f.xs m e.ino (ns++[e.name])):=by
    unfold YI
    rw[List.filter_cons_of_neg (by simpa using hk)]
   rw[hc]
   exact key _ (List.Sublist.refl _)
end
section
def U5 (l:JK):Nat:=(l.map fun p=>p.2.es.length).sum
theorem ze7 (a b:JK):U5 (a++b)=U5 a+U5 b:=by unfold U5;rw[List.map_append,List.sum_append]
theorem uX {xs:List zp}:∀ (m:Nat) (n:Int) (ns:List (List UInt8)),(jp xs m n ns).length<=1+U5 (jp xs m n ns)
 | 0,n,ns=>Nat.zero_le _
 | m+1,n,ns=>by
  unfold jp
  split
  ·have key:∀ L:List zZ,(L.flatMap fun e=>jp xs m e.ino (ns++[e.name])).length<=L.length+U5 (L.flatMap fun e=>jp xs m e.ino (ns++[e.name])):=by
    intro L
    induction L with
    | nil=>exact Nat.le_refl _
    | cons e r ih =>
     rw[List.flatMap_cons,List.length_append,ze7,List.length_cons]
     have:=uX (xs:=xs) m e.ino (ns++[e.name])
     omega
   have:=key (zh n xs).es
   have hs:∀ l:JK,U5 ((ns,zh n xs) :: l)=(zh n xs).es.length+U5 l:=fun l=>by unfold U5;rw[List.map_cons,List.sum_cons]
   rw[List.length_cons,hs]
   omega
  ·exact Nat.zero_le _
theorem zjw {l:JK} (h:∀ p∈l,p.2.es.length<=40/\(p.2.kind≠2->p.2.es = [])):U5 l<=40*(YI l).length:=by
 induction l with
 | nil=>exact Nat.zero_le _
 | cons p r ih =>
  have hp:=h p List.mem_cons_self
  have ih:=ih fun q hq=>h q (List.mem_cons_of_mem _ hq)
  unfold U5 at ih ⊢
  rw[List.map_cons,List.sum_cons]
  unfold YI at ih ⊢
  by_cases hk:p.2.kind=2
  ·rw[List.filter_cons_of_pos (by simpa using hk),List.map_cons,List.length_cons];omega
  ·rw[List.filter_cons_of_neg (by simpa using hk),hp.2 hk]
   simpa using ih
theorem zhM {f:FsV} (h:okV f) (m:Nat) (n:Int) (ns:List (List UInt8)):(jp f.xs m n ns).length<=1601:=by
 obtain ⟨h0,_,h2,_⟩:=qU h
 cases hh:zn n f.xs with
 | false =>
  cases m with
  | zero=>exact Nat.zero_le _
  | succ m=>unfold jp;rw[hh];exact Nat.zero_le _
 | true =>
  have h1:=uX (xs:=f.xs) m n ns
  have hg:∀ p∈jp f.xs m n ns,p.2∈f.xs:=fun p hp=>by
   obtain ⟨j,_,q2,q3⟩:=Xd m n ns p hp
   rw[←q3];exact (jt q2).1
  have hs:=zjw (l:=jp f.xs m n ns) fun p hp=>⟨(h0.2 _ (hg p hp)).2.1,fun hk=>((h2 _ (hg p hp)).2.1 hk).1⟩
  have hd:=ZB (Qk h m n ns hh) fun d hd=>by
   obtain ⟨p,p1,_,rfl⟩:=V6 hd
   obtain ⟨_,_,q2,_⟩:=Xd m n ns p p1
   exact q2
  have:=h0.1
  omega
def zgB (ns:List (List UInt8)):Nat:=(ns.map fun x=>x.length+1).sum
theorem xv (ns:List (List UInt8)) (x:List UInt8):zgB (ns++[x])=zgB ns+(x.length+1):=by
 unfold zgB;rw[List.map_append,List.sum_append];simp
theorem Vn {xs:List zp} (h0:VS xs):∀ (m:Nat) (n:Int) (ns:List (List UInt8)),∀ p∈jp xs m n ns,p.1.length<=ns.length+m/\zgB p.1<=zgB ns+m*301
 | 0,n,ns,p,hp=>by cases hp
 | m+1,n,ns,p,hp=>by
  unfold jp at hp
  split at hp
  ·rename_i hh
   obtain ⟨hm,_⟩:=jt hh
   rcases List.mem_cons.1 hp with rfl | hp
   ·exact ⟨Nat.le_add_right _ _,Nat.le_add_right _ _⟩
   ·obtain ⟨e,he,hp⟩:=List.mem_flatMap.1 hp
    obtain ⟨q1,q2⟩:=Vn h0 m _ _ p hp
    have:=(h0.2 _ hm).2.2 e he
    rw[xv]at q2
    rw[List.length_append,List.length_singleton]at q1
    exact ⟨by omega,by omega⟩
  ·cases hp
theorem Zt (ns:List (List UInt8)):(Lib.join ns [47]).length<=zgB ns:=by
 by_cases h:ns = []
 ·subst h;exact Nat.zero_le _
 ·have:=Qh ns h
  unfold zgB;omega
theorem zio {f:FsV} (h:okV f) (n:Int) (ns:List (List UInt8)) (h1:ns.length<=100000) (h2:zgB ns<=100000):yQ (trV f.xs) n ns:=by
 obtain ⟨h0,_⟩:=qU h
 refine ⟨Nat.le_trans (zhM h _ n ns) (by decide),fun p hp=>?_⟩
 obtain ⟨q1,q2⟩:=Vn h0 _ n ns p hp
 have:=Zt p.1
 have:=h0.1
 exact ⟨by omega,by omega⟩
end
section
theorem Hc {xs:List zp}:∀ (m:Nat) (n:Int) (ns:List (List UInt8)) (j:Nat) (d:Int),Anc xs n j d->j<m->zn n xs=true->(∀ x∈xs,∀ e∈x.es,zn e.ino xs=true)->∃ p∈jp xs m n ns,p.2.ino=d
 | 0,n,ns,j,d,ha,hj,hh,h3=>by omega
 | m+1,n,ns,0,d,ha,hj,hh,h3=>by
  cases ha
  obtain ⟨_,hi⟩:=jt hh
  refine ⟨(ns,zh n xs),?_,hi⟩
  unfold jp
  rw[if_pos hh]
  exact List.mem_cons_self
 | m+1,n,ns,j+1,d,ha,hj,hh,h3=>by
  have key:∀ (j:Nat) (d:Int),Anc xs n (j+1) d->∃ e∈(zh n xs).es,Anc xs e.ino j d:=by
   intro j
   induction j with
   | zero =>
    intro d ha
    cases ha with
    | step a b c=>cases a;exact ⟨_,c,.same⟩
   | succ j ih =>
    intro d ha
    cases ha with
    | step a b c =>
     obtain ⟨e,he,h⟩:=ih _ a
     exact ⟨e,he,.step h b c⟩
  obtain ⟨e,he,h⟩:=key j d ha
  obtain ⟨hm,_⟩:=jt hh
  obtain ⟨p,p1,p2⟩:=Hc m e.ino (ns++[e.name]) j d h (by omega) (h3 _ hm e he) h3
  refine ⟨p,?_,p2⟩
  unfold jp
  rw[if_pos hh]
  exact List.mem_cons_of_mem _ (List.mem_flatMap.2 ⟨e,he,p1⟩)
theorem zdb {xs:List zp}:∀ {k:Nat} {n:Int},Dep xs k n->Anc xs 1 k n
 | _,_,.root=>.same
 | _,_,.step a b c=>.step (zdb a) b c
theorem zj2 {f:FsV} (h:okV f) {n:Int} (hh:zn n f.xs=true):∃ p∈trV f.xs 1 [],p.2.ino=n:=by
 obtain ⟨_,h1,_,h3,_⟩:=qU h
 obtain ⟨k,hk,hd⟩:=zjU h hh
 exact Hc _ 1 [] k n (zdb hd) (by omega) h1.2.2.2.2.2.2.2.1 h3
theorem xk {f:FsV} {m:Nat} {n:Int} {ns:List (List UInt8)} {p:List (List UInt8)×zp} (hp:p∈jp f.xs m n ns):zn p.2.ino f.xs=true/\zh p.2.ino f.xs=p.2:=by
 obtain ⟨_,_,q⟩:=Xd m n ns p hp
 exact q
theorem G3:∀ {l:JK} {n:Int},(YI l).Nodup->(∀ p∈l,p.2.ino=n->p.2.kind=2)->(∃ p∈l,p.2.ino=n)->∃ p,l.filter (fun p=>decide (p.2.ino=n)) = [p]
 | [],n,_,_,⟨p,hp,_⟩=>by cases hp
 | q :: l,n,hn,hk,hex=>by
  have hk':∀ p∈l,p.2.ino=n->p.2.kind=2:=fun p hp=>hk p (List.mem_cons_of_mem _ hp)
  by_cases hq:q.2.ino=n
  ·have hk2:=hk q List.mem_cons_self hq
   have hc:YI (q :: l)=q.2.ino :: YI l:=by
    unfold YI;rw[List.filter_cons_of_pos (by simpa using hk2),List.map_cons]
   rw[hc,List.nodup_cons,hq]at hn
   have he:l.filter (fun p=>decide (p.2.ino=n)) = []:=by
    rw[List.filter_eq_nil_iff]
    intro p hp hpn
    have hpn:=of_decide_eq_true hpn
    refine hn.1 ?_
    exact List.mem_map.2 ⟨p,List.mem_filter.2 ⟨hp,by simpa using hk' p hp hpn⟩,hpn⟩
   exact ⟨q,by rw[List.filter_cons_of_pos (by simpa using hq),he]⟩
  ·have hn':(YI l).Nodup:=by
    unfold YI at hn ⊢
    by_cases hk2:q.2.kind=2
    ·rw[List.filter_cons_of_pos (by simpa using hk2),List.map_cons,List.nodup_cons]at hn;exact hn.2
    ·rw[List.filter_cons_of_neg (by simpa using hk2)]at hn;exact hn
   obtain ⟨p,hp,hpn⟩:=hex
   have hpl:p∈l:=by
    rcases List.mem_cons.1 hp with rfl | hp
    ·exact absurd hpn hq
    ·exact hp
   obtain ⟨p',h⟩:=G3 hn' hk' ⟨p,hpl,hpn⟩
   exact ⟨p',by rw[List.filter_cons_of_neg (by simpa using hq)];exact h⟩
theorem zgw {f:FsV} (h:okV f) {n:Int} (hh:zn n f.xs=true) (hk:(zh n f.xs).kind=2):∃ p,kh n (trV f.xs 1 []) = [p]/\kT n (trV f.xs 1 [])=some p:=by
 obtain ⟨_,h1,_⟩:=qU h
 have hkk:∀ p∈trV f.xs 1 [],p.2.ino=n->p.2.kind=2:=fun p hp hpn=>by
  obtain ⟨_,q⟩:=xk hp
  rw[hpn]at q;rw[←q];exact hk
 obtain ⟨p,hp⟩:=G3 (Qk h _ 1 [] h1.2.2.2.2.2.2.2.1) hkk (zj2 h hh)
 refine ⟨jh p.1,by unfold kh;rw[hp];rfl,?_⟩
 unfold kT
 have he:(fun q:List (List UInt8)×zp=>decide (q.2.ino=n)&&decide (q.2.kind=2))=fun q=>decide (q.2.ino=n)&&decide (q.2.kind=2):=rfl
 rw[←List.head?_filter]
 have hf:(trV f.xs 1 []).filter (fun q=>decide (q.2.ino=n)&&decide (q.2.kind=2))=(trV f.xs 1 []).filter fun q=>decide (q.2.ino=n):=by
  refine List.filter_congr fun q hq=>?_
  by_cases hqn:q.2.ino=n
  ·simp[hqn,hkk q hq hqn]
  ·simp[hqn]
 rw[hf,hp];rfl
end
section
theorem zab {xs:List zp} (hm:∀ x∈xs,∀ e∈x.es,may e.name=true):∀ (m:Nat) (n:Int) (ns:List (List UInt8)),∀ p∈jp xs m n ns,∃ zs,p.1=ns++zs/\∀ z∈zs,may z=true
 | 0,n,ns,p,hp=>by unfold jp at hp;cases hp
 | m+1,n,ns,p,hp=>by
  unfold jp at hp
  split at hp
  ·rename_i hh
   rcases List.mem_cons.1 hp with rfl | hp
   ·exact ⟨[],by simp,fun z hz=>by cases hz⟩
   ·obtain ⟨e,he,hp⟩:=List.mem_flatMap.1 hp
    obtain ⟨zs,h1,h2⟩:=zab hm m e.ino _ p hp
    refine ⟨e.name :: zs,by rw[h1,List.append_assoc];rfl,fun z hz=>?_⟩
    rcases List.mem_cons.1 hz with rfl | hz
    ·exact hm _ (jt hh).1 e he
    ·exact h2 z hz
  ·cases hp
theorem zeO {es:List zZ} (h:YV es):es.Pairwise fun a b=>a.name≠b.name:=by
 have key:∀ (d i:Nat) (hj:i+d+1<es.length),es[i].name<es[i+d+1].name:=by
  intro d
  induction d with
  | zero =>
   intro i hj
   have h1:=(h (i+1) hj).2.2 (by omega)
   rw[bytesLess_eq]at h1
   exact of_decide_eq_true h1
  | succ d ih =>
   intro i hj
   have h1:=(h (i+(d+1)+1) hj).2.2 (by omega)
   rw[bytesLess_eq]at h1
   have h1:=of_decide_eq_true h1
   have h2:=ih i (by omega)
   exact List.lt_trans h2 h1
 refine List.pairwise_iff_getElem.2 fun i j hi hj hij he=>?_
 obtain ⟨d,rfl⟩:∃ d,j=i+d+1:=⟨j-i-1,by omega⟩
 have h1:=key d i hj
 rw[he]at h1
 exact List.lt_irrefl _ h1
theorem vv {f:FsV} (h:okV f):(∀ x∈f.xs,∀ e∈x.es,may e.name=true)/\∀ x∈f.xs,x.es.Pairwise fun a b=>a.name≠b.name:=by
 obtain ⟨_,_,h2,_⟩:=qU h
 have key:∀ x∈f.xs,YV x.es:=fun x hx=>by
  by_cases hk:x.kind=2
  ·exact ((h2 x hx).2.2.1 hk).2
  ·rw[((h2 x hx).2.1 hk).1];intro i hi;simp at hi
 refine ⟨fun x hx e he=>?_,fun x hx=>zeO (key x hx)⟩
 obtain ⟨i,hi,rfl⟩:=List.getElem_of_mem he
 exact (key x hx i hi).1
end
section
open CA CB
open Go.RowKit
def va (p n:List UInt8):List UInt8:=if Lib.hasSuffix p [47] then p++n else p++[47]++n
theorem Mf (p n:List UInt8) (hp:p.length<=1000000) (hn:n.length<=1000000):Fun Tryz.prog G0 13 [.str p,.str n] (.str (va p n)) 0:=by
 have h:=Zx p [47] hp
 cases hs:Lib.hasSuffix p [47] with
 | true =>
  have e:va p n=p++n:=by unfold va;rw[hs,if_pos rfl]
  rw[hs]at h
  refine fon Tryz.func13 ?_;dsimp only[Tryz.f13]
  push_cast -dsimp
  refine cl (h) ?_;push_cast -dsimp
  repeat refine an ?_
  exact dn (by push_cast -dsimp [ze,zd,CLe,zg,e])
 | false =>
  have e:va p n=p++[47]++n:=by unfold va;rw[hs];rfl
  rw[hs]at h
  refine fon Tryz.func13 ?_;dsimp only[Tryz.f13]
  push_cast -dsimp
  refine cl (h) ?_;push_cast -dsimp
  repeat refine an ?_
  exact dn (by push_cast -dsimp [ze,zd,CLe,zg,e])
theorem znE {f:FsV} (h:okV f) {n:Int} (hh:zn n f.xs=true) (hk:(zh n f.xs).kind=2) :
  ∃ ns,(∀ z∈ns,may z=true)/\ns.length<=41/\zgB ns<=20000/\kh n (trV f.xs 1 []) = [jh ns]/\kT n (trV f.xs 1 [])=some (jh ns):=by
 obtain ⟨h0,h1,_⟩:=qU h
 have hkk:∀ p∈trV f.xs 1 [],p.2.ino=n->p.2.kind=2:=fun p hp hpn=>by
  obtain ⟨_,q⟩:=xk hp
  rw[hpn]at q;rw[←q];exact hk
 obtain ⟨p,hp⟩:=G3 (Qk h _ 1 [] h1.2.2.2.2.2.2.2.1) hkk (zj2 h hh)
 obtain ⟨q,q1,q2⟩:=zgw h hh hk
 have hq:kh n (trV f.xs 1 []) = [jh p.1]:=by unfold kh;rw[hp];rfl
 rw[hq]at q1
 have hqe:jh p.1=q:=by simpa using q1
 have hpm:p∈trV f.xs 1 []:=(List.mem_filter.1 (by rw[hp];exact List.mem_singleton.2 rfl)).1
 obtain ⟨zs,z1,z2⟩:=zab (vv h).1 _ 1 [] p hpm
 obtain ⟨t1,t2⟩:=Vn h0 _ 1 [] p hpm
 have t3:=Zt p.1
 have t4:zgB []=0:=rfl
 have h40:=h0.1
 rw[List.nil_append]at z1
 rw[←z1]at z2
 simp only[List.length_nil,t4]at t1 t2
 exact ⟨p.1,z2,by omega,by omega,hq,by rw[q2,hqe]⟩
def ue (f:FsV) (s:qy):List UInt8:=vP ((kT s.dir (trV f.xs 1 [])).getD []) s.name
theorem zdU (f:FsV) (h:okV f) (s:qy) (hh:zn s.dir f.xs=true) (hk:(zh s.dir f.xs).kind=2) (hm:may s.name=true):Fun Tryz.prog G0 17 [.agg (fsC f),.agg (YJ s)] (.str (ue f s)) 0:=by
 obtain ⟨ns,n1,n2,n3,n4,n5⟩:=znE h hh hk
 have hp:=yN f s.dir _ (zlh h) (zio h 1 [] (by decide) (by decide))
 have hml:=yJ hm
 have hjw:=Zt ns
 have hjl:(jh ns).length<=20001:=by unfold jh;split<;>simp<;>omega
 have hr:=zh7 (jh ns) (by omega)
 unfold zhP at hr
 rw[QO ns fun z hz=>vT (n1 z hz)]at hr
 have hj:=Qc (ns++[s.name]) (by simp;omega) (by
  have a1:=Zt (ns++[s.name])
  rw[xv]at a1
  omega)
 rw[zaM ns s.name fun y hy=>(vT (n1 y hy)).1]at hj
 have e:ue f s=vP (jh ns) s.name:=by unfold ue;rw[n5];rfl
 rw[n5]at hp
 have hsl:(jq ns).length=ns.length:=List.length_map ..
 refine fof (fun i=>if i=2 then [false,false,false,false,false,false,true,false,false] else []) Tryz.func17 ?_;dsimp only[Tryz.f17]
 push_cast -dsimp
 refine cl (hp) ?_;push_cast -dsimp [Option.getD_some,Option.isSome_some]
 refine cl (hr) ?_;push_cast -dsimp
 repeat refine an ?_
 refine cl (hj) ?_;push_cast -dsimp
 exact dn (by push_cast -dsimp [ze,zd,CLe,zg,e])
end
section
open CA CB
open Go.RowKit
theorem Fun.gd0 {f:FuncId} {args:List C} {r:C} {n:Nat} (h:Fun Tryz.prog G0 f args r n):Fun Tryz.prog GD f args r n:=h.glob0
def QP (w:qg) (l:List OpV):Bool:=decide (okW w)&&(decide (w.fs.next<549755813888)&&(zj7 l&&(decide (l.length<=30)&&decide (jy w.kept<536870912))))
theorem zaF (w:qg) (l:List OpV):Fun Tryz.prog G0 8 [jB w,.sl 5 (Hk l)] (qO (QP w l)) 0:=by
 have h1:=zeR w
 have h2:=ziz l
 have hll:=Xf l
 by_cases c1:okW w
 case neg =>
  have e:QP w l=false:=by unfold QP;rw[decide_eq_false c1];rfl
  rw[decide_eq_false c1]at h1
  refine fon Tryz.func8 ?_;dsimp only[Tryz.f8]
  push_cast -dsimp
  refine cl (h1) ?_;push_cast -dsimp
  exact dn (by push_cast -dsimp [ze,zd,CLe,zg,e])
 rw[decide_eq_true c1]at h1
 by_cases c2:w.fs.next<549755813888
 case neg =>
  have e:QP w l=false:=by unfold QP;rw[decide_eq_true c1,decide_eq_false c2];rfl
  refine fon Tryz.func8 ?_;dsimp only[Tryz.f8]
  push_cast -dsimp
  refine cl (h1) ?_;push_cast -dsimp [c2]
  exact dn (by push_cast -dsimp [ze,zd,CLe,zg,e])
 cases c3:zj7 l with
 | false =>
  have e:QP w l=false:=by unfold QP;rw[decide_eq_true c1,decide_eq_true c2,c3];rfl
  rw[c3]at h2
  refine fon Tryz.func8 ?_;dsimp only[Tryz.f8]
  push_cast -dsimp
  refine cl (h1) ?_;push_cast -dsimp [c2]
  refine cl (h2) ?_;push_cast -dsimp
  exact dn (by push_cast -dsimp [ze,zd,CLe,zg,e])
 | true =>
  rw[c3]at h2
  by_cases c4:l.length<=30
  ·have c4':((l.length:Int)<=30)=True:=eq_true (by omega)
   have hk:=(zf1 c1).klen
   have h3:=kA (G:=G0) w (by omega) c1.2.2.2.2.1.1 c1.2.2.2.2.1.2
   have e:QP w l=decide (jy w.kept<536870912):=by unfold QP;rw[decide_eq_true c1,decide_eq_true c2,c3,decide_eq_true c4];rfl
   refine fon Tryz.func8 ?_;dsimp only[Tryz.f8]
   push_cast -dsimp
   refine cl (h1) ?_;push_cast -dsimp [c2]
   refine cl (h2) ?_;push_cast -dsimp [hll,c4']
   refine cl (h3) ?_;push_cast -dsimp
   exact dn (by push_cast -dsimp [ze,zd,CLe,zg,e])
  ·have c4':((l.length:Int)<=30)=False:=eq_false (by omega)
   have e:QP w l=false:=by unfold QP;rw[decide_eq_true c1,decide_eq_true c2,c3,decide_eq_false c4];rfl
   refine fon Tryz.func8 ?_;dsimp only[Tryz.f8]
   push_cast -dsimp
   refine cl (h1) ?_;push_cast -dsimp [c2]
   refine cl (h2) ?_;push_cast -dsimp [hll,c4']
   exact dn (by push_cast -dsimp [ze,zd,CLe,zg,e])
theorem zbb {w:qg} {l:List OpV} (h:QP w l=true):okW w/\jy w.kept<=1073741824/\l.length<=30/\∀ o∈l,OpS o:=by
 unfold QP at h
 simp only[Bool.and_eq_true,decide_eq_true_eq]at h
 obtain ⟨h1,h2,h3,h4,h5⟩:=h
 refine ⟨h1,by omega,h4,fun o ho=>?_⟩
 unfold zj7 at h3
 simp only[Bool.and_eq_true,decide_eq_true_eq]at h3
 have:=List.all_eq_true.1 h3.1 o (by rw[List.take_of_length_le (by omega)];exact ho)
 unfold okO at this
 simp only[Bool.and_eq_true,Bool.not_eq_true',Bool.or_eq_false_iff,decide_eq_true_eq,decide_eq_false_iff_not]at this
 exact ⟨by omega,by omega,by omega⟩
theorem OpS.short {o:OpV} (h:OpS o):short o:=⟨by have:=h.a;omega,by have:=h.b;omega,by have:=h.d;omega⟩
theorem zco (w:qg) (l:List OpV) (hw:okW w) (hl:jy w.kept<=1073741824) (h30:l.length<=30) (ho:∀ o∈l,OpS o):Fun Tryz.prog GD 9 [jB w,.sl 5 (Hk l)] (.tup [zbS (mkD w l l.length),zbS (mkD w l l.length),.sc (.bool true)]) 0:=by
 have hk:=(zf1 hw).klen
 have h1:=(vI (G:=G0) w (by omega)).gd0
 have h2:=(zfm w (by omega) hw.2.2.2.2.1).gd0
 have hll:=Xf l
 have hB:=zcK hw hl fun o h=>(ho o h).d
 refine fof (fun i=>if i=7 then Ut 9 10 else if i=8 then Ut 9 10 else if i=10 then VQ [(0,.pure),(1,.pure),(2,.flt [1]),(3,.flt []),(4,.pure)] else if i=16 then VQ [(0,.pure),(1,.pure),(2,.flt [1]),(3,.flt []),(4,.pure)] else if i=14 then [false,false,false,false,false,false,false,false,false,false,false,false,false,false,false,false,false,false,false,true] else if i=15 then [false,false,false,false,false,false,false,false,false,false,false,false,false,false,false,false,false,false,false,true] else []) Tryz.func9 ?_;dsimp only[Tryz.f9]
 push_cast -dsimp
 refine cl (h1) ?_;push_cast -dsimp
 refine cl (h2) ?_;push_cast -dsimp
 refine loop (fun i:Nat=>⟨[(1,.sl 5 (Hk l)),(4,.ptr 1 0),(5,.ptr 2 0),(7,.ptr 3 0),(8,.ptr 4 0),(9,.sc (.int .i64 i))],[[.any,.any,.any,.any,.any,.any],[.any,.any,.any,.any,.any,.any,.any,.any,.any,.any],[.any,.any,.any,.any,.any,.any,.any,.any,.any,.any],zpT (mkD w l i),zpT (mkD w l i)],0,0⟩) (fun i=>i<=l.length) (fun i=>l.length-i) 0 (Nat.zero_le _) ?_ ?_
 ·exact wk (h5:=by push_cast -dsimp [ze,zd,CLe,zg,mkD,zcu])
 intro i hi
 by_cases h:i<l.length
 case neg =>
  have hil:i=l.length:=by omega
  subst hil
  push_cast -dsimp [hll,Int.lt_irrefl]
  exact dn
 have g:=Uf l i h
 have hsu:=zjx (w:=w) h
 have hbi:=hB i
 have hoi:=ho _ (List.getElem_mem h)
 have hds:=hbi.s (by omega)
 have hdg:=hbi.diags
 generalize hd':mkD w l (i+1)=d' at hsu
 generalize mkD w l i=d at hsu hbi hds hdg
 generalize l[i]=o at g hsu hoi
 have hra:=(zhd d hds o hoi.short (by have:=hoi.d;omega)).gd0
 have hrt:=(ze5 d (by omega) (1+((i % 5:Nat):Int)) (1+((i % 22:Nat):Int)) o.a o.b (Jt d o).2 hoi.a hoi.b).gd0
 have hpt:=NC d (by omega) (1+((i % 5:Nat):Int)) (1+((i % 22:Nat):Int)) o.a o.b (Jt d o).2 hoi.a hoi.b
 by_cases c1:o.kind<1
 ·have e:d'=d:=by rw[hsu];unfold XL;rw[if_pos c1]
  subst e
  rw[kx]at g
  push_cast -dsimp [hll,h,g,c1]
  repeat refine an ?_
  exact ⟨i+1,h,by omega,wk (h5:=by push_cast -dsimp [ze,zd,CLe,zg,hd'])⟩
 by_cases c2:(Jt d o).2=0
 ·have e:d'=(Jt d o).1:=by rw[hsu];unfold XL;rw[if_neg c1,if_pos c2]
  subst e
  have hpa:=Gg d hds o hoi.short (by have:=hoi.d;omega) c2
  rw[c2]at hra
  rw[kx]at g hpa hra
  push_cast -dsimp [hll,h,g,c1]
  repeat refine an ?_
  refine cl (hpa) ?_;push_cast -dsimp [hll,h,g]
  repeat refine an ?_
  refine cl (hra) ?_;push_cast -dsimp
  repeat refine an ?_
  exact ⟨i+1,h,by omega,wk (h5:=by push_cast -dsimp [ze,zd,CLe,zg,hd'])⟩
 ·have e:d'=YZ d (YN (1+((i % 5:Nat):Int)) (1+((i % 22:Nat):Int)) o.a o.b (Jt d o).2):=by rw[hsu];unfold XL;rw[if_neg c1,if_neg c2]
  subst e
  have hpa:=zeF d hds o hoi.short (by have:=hoi.d;omega) c2 _ _ rfl rfl
  rw[UR c2]at hra
  rw[kx]at g hpa hra
  push_cast -dsimp [hll,h,g,c1]
  repeat refine an ?_
  refine cl (hpa) ?_;push_cast -dsimp [hll,h,g]
  repeat refine an ?_
  refine cl (hra) ?_;push_cast -dsimp [hll,h,g,c2]
  repeat refine an ?_
  refine cl (hpt) ?_;push_cast -dsimp [hll,h,g]
  repeat refine an ?_
  have htl:∀ x,(YZ d x).ops=d.ops:=fun _=>rfl
  refine cl (hrt) ?_;push_cast -dsimp
  repeat refine an ?_
  exact ⟨i+1,h,by omega,wk (h5:=by push_cast -dsimp [ze,zd,CLe,zg,hd',htl])⟩
end
section
open CA CB
open Go.RowKit
def Hw:FsV:=⟨4,9,9,[⟨1,2,0,[],1,[⟨[97],4⟩,⟨[98],3⟩]⟩,⟨3,1,1,[121],0,[]⟩,⟨4,1,1,[122],0,[]⟩]⟩
def XF:qg:=⟨Hw,[],[]⟩
def uj:List OpV:=[⟨7,0,[47,97],[],[]⟩,⟨7,99,[47,98],[],[]⟩,⟨8,0,[47,98],[],[]⟩]
theorem QF:okW XF:=by decide
theorem zeX:okV Hw:=⟨QF.1.2.1,QF.2.1⟩
theorem vp:Fun Tryz.prog G0 29 [] (jB XF) 0:=by
 have h1:=zhu (G:=G0) 4 9
 have h2:=j9 (G:=G0) ⟨4,9,9,[⟨1,2,0,[],1,[]⟩]⟩ ⟨1,2,0,[],1,[⟨[97],4⟩,⟨[98],3⟩]⟩ (by decide)
 have h3:=Gr (G:=G0) ⟨4,9,9,[⟨1,2,0,[],1,[⟨[97],4⟩,⟨[98],3⟩]⟩]⟩ ⟨3,1,1,[121],0,[]⟩ rfl (by decide)
 have h4:=Gr (G:=G0) ⟨4,9,9,[⟨1,2,0,[],1,[⟨[97],4⟩,⟨[98],3⟩]⟩,⟨3,1,1,[121],0,[]⟩]⟩ ⟨4,1,1,[122],0,[]⟩ rfl (by decide)
 have e2:qm ⟨1,2,0,[],1,[⟨[97],4⟩,⟨[98],3⟩]⟩ [⟨1,2,0,[],1,[]⟩] = [⟨1,2,0,[],1,[⟨[97],4⟩,⟨[98],3⟩]⟩]:=by decide
 have e3:qm ⟨3,1,1,[121],0,[]⟩ [⟨1,2,0,[],1,[⟨[97],4⟩,⟨[98],3⟩]⟩] = [⟨1,2,0,[],1,[⟨[97],4⟩,⟨[98],3⟩]⟩,⟨3,1,1,[121],0,[]⟩]:=by decide
 have e4:qm ⟨4,1,1,[122],0,[]⟩ [⟨1,2,0,[],1,[⟨[97],4⟩,⟨[98],3⟩]⟩,⟨3,1,1,[121],0,[]⟩]=Hw.xs:=by decide
 simp only[e2]at h2
 simp only[e3]at h3
 simp only[e4]at h4
 refine fon Tryz.func29 ?_;dsimp only[Tryz.f29]
 push_cast -dsimp
 refine cl (h1) ?_;push_cast -dsimp
 refine cl (h2) ?_;push_cast -dsimp
 refine cl (h3) ?_;push_cast -dsimp
 refine cl (h4) ?_;push_cast -dsimp
 exact dn (by push_cast -dsimp [ze,zd,CLe,zg,XF,Hw])
theorem GV (i:Nat) (hi:i<=3):Zn (mkD XF uj i):=(zcK QF (by decide) (fun o ho=>by
 have:∀ o∈uj,o.d.length<=5000:=by decide
 exact this o ho) i).s (by omega)
theorem zqf:ue Hw ⟨1,[110],0⟩ = [47,110]:=by decide
end
section
open CA CB
open Go.RowKit
theorem Xo:Fun Tryz.prog GD 7 [] (qO true) 0:=by
 obtain ⟨d1,hd1⟩:∃ d,(Jt (zcu XF) ⟨7,0,[47,97],[],[]⟩).1=d:=⟨_,rfl⟩
 obtain ⟨d2,hd2⟩:∃ d,(Jt d1 ⟨7,99,[47,98],[],[]⟩).1=d:=⟨_,rfl⟩
 have s0:Zn (zcu XF):=GV 0 (by decide)
 have s1:Zn d1:=by
  have e:mkD XF uj 1=d1:=by rw[←hd1];decide
  rw[←e];exact GV 1 (by decide)
 have s2:Zn d2:=by
  have e:mkD XF uj 2=d2:=by rw[←hd2,←hd1];decide
  rw[←e];exact GV 2 (by decide)
 have z1:(Jt (zcu XF) ⟨7,0,[47,97],[],[]⟩).2=0:=by decide
 have z2:(Jt d1 ⟨7,99,[47,98],[],[]⟩).2=0:=by rw[←hd1];decide
 have z3:(Jt d2 ⟨8,0,[47,98],[],[]⟩).2=12:=by rw[←hd2,←hd1];decide
 have p1:d2.ops = [⟨7,1,[47,97],[],[]⟩,⟨7,2,[47,98],[],[]⟩]:=by rw[←hd2,←hd1];decide
 have p2:d2.slot=2:=by rw[←hd2,←hd1];decide
 have p3:d2.diags = []:=by rw[←hd2,←hd1];decide
 have p4:(zcu XF).slot=0:=rfl
 have p5:YN 2 2 [120] [] 1 = [114,109,58,32,99,97,110,110,111,116,32,114,101,109,111,118,101,32,34,120,34,58,32,78,111,32,115,117,99,104,32,102,105,108,101,32,111,114,32,100,105,114,101,99,116,111,114,121]:=by decide
 have q0:=(vI (G:=G0) XF (by decide)).gd0
 have q1:=Gg (zcu XF) s0 ⟨7,0,[47,97],[],[]⟩ ⟨by decide,by decide,by decide⟩ (by decide) z1
 have q2:=Gg d1 s1 ⟨7,99,[47,98],[],[]⟩ ⟨by decide,by decide,by decide⟩ (by decide) z2
 have q3:=zeF d2 s2 ⟨8,0,[47,98],[],[]⟩ ⟨by decide,by decide,by decide⟩ (by decide) (by rw[z3];decide) _ _ rfl rfl
 have q4:=NC d2 (by rw[p3];decide) 2 2 [120] [] 1 (by decide) (by decide)
 have hsm:=vp.gd0
 have q5:=(zdU Hw zeX ⟨1,[110],0⟩ (by decide) (by decide) (by decide)).gd0
 have q6:=(Mf [97] [98] (by decide) (by decide)).gd0
 have q7:=(Mf [97,47] [98] (by decide) (by decide)).gd0
 rw[hd1]at q1
 rw[hd2]at q2
 rw[z3]at q3
 rw[p5]at q4
 rw[zqf]at q5
 rw[show va [97] [98] = [97,47,98] from rfl]at q6
 rw[show va [97,47] [98] = [97,47,98] from rfl]at q7
 rw[kx]at q1 q2 q3
 have p6:(YZ d2 ([114,109,58,32,99,97,110,110,111,116,32,114,101,109,111,118,101,32,34,120,34,58,32,78,111,32,115,117,99,104,32,102,105,108,101,32,111,114,32,100,105,114,101,99,116,111,114,121])).diags = [[114,109,58,32,99,97,110,110,111,116,32,114,101,109,111,118,101,32,34,120,34,58,32,78,111,32,115,117,99,104,32,102,105,108,101,32,111,114,32,100,105,114,101,99,116,111,114,121]]:=by unfold YZ;rw[p3];rfl
 have p7:(YZ d2 ([114,109,58,32,99,97,110,110,111,116,32,114,101,109,111,118,101,32,34,120,34,58,32,78,111,32,115,117,99,104,32,102,105,108,101,32,111,114,32,100,105,114,101,99,116,111,114,121])).status=1:=rfl
 rw[p6]at q4
 simp only[zbS,zpT,zml,p1,p2,List.map_cons,List.map_nil]at q2 q3 q4
 refine fon Tryz.func7 ?_;dsimp only[Tryz.f7]
 dsimp only[List.append_eq,List.cons_append,List.nil_append]
 push_cast -dsimp
 refine cl (hsm) ?_;push_cast -dsimp
 refine cl (q0) ?_;push_cast -dsimp
 refine cl (q1) ?_;push_cast -dsimp
 refine cl (q2) ?_;push_cast -dsimp
 refine cl (q3) ?_;push_cast -dsimp
 refine cl (q4) ?_;push_cast -dsimp [p4,p7,opL]
 refine cl (q5) ?_;push_cast -dsimp
 refine cl (q6) ?_;push_cast -dsimp
 refine cl (q7) ?_;push_cast -dsimp
 exact dn
end
section
open Go.RowKit Go.ChangeMaps Go.ChangeShapes Go.WideShapes Go.Deep Go.Joins
section
variable {H:Type} {enc:TypeId×Value->H} {W:World}
theorem zpP:jl enc Tryz.prog W 63 5 fun row=>∃ o:OpV,row=opL o/\True:=fun fuel cs x hx=>by
 obtain ⟨row,⟨hl,hq⟩,h1,h2,h3⟩:=jl.struct (W:=W) (enc:=enc) (Qs:=fun j c=>match j with | 0=>∃ n,c = .sc (.int .i64 n)/\(Lit.int .i64 n).wf=true | 1=>∃ n,c = .sc (.int .i64 n)/\(Lit.int .i64 n).wf=true | 2=>∃ l:List UInt8,c = .str l/\l.length<=maxLen | 3=>∃ l:List UInt8,c = .str l/\l.length<=maxLen | 4=>∃ l:List UInt8,c = .str l/\l.length<=maxLen | _=>True) Tryz.underlying63 (by kernel_rfl) (by kernel_rfl) (fun j f hj=>by
  match j,hj with
  | 0,hj=>cases hj;exact Opn.int Tryz.underlying3
  | 1,hj=>cases hj;exact Opn.int Tryz.underlying3
  | 2,hj=>cases hj;exact Opn.str Tryz.underlying9
  | 3,hj=>cases hj;exact Opn.str Tryz.underlying9
  | 4,hj=>cases hj;exact Opn.str Tryz.underlying9
  | j+5,hj=>simp at hj) fuel cs x hx
 match row,h1,hq,h3 with
 | [c0,c1,c2,c3,c4],_,hq,h3 =>
  obtain ⟨k,rfl,_⟩:=hq 0 c0 rfl
  obtain ⟨s,rfl,_⟩:=hq 1 c1 rfl
  obtain ⟨a,rfl,_⟩:=hq 2 c2 rfl
  obtain ⟨b,rfl,_⟩:=hq 3 c3 rfl
  obtain ⟨d,rfl,_⟩:=hq 4 c4 rfl
  exact ⟨_,⟨⟨k,s,a,b,d⟩,rfl,trivial⟩,rfl,h2,h3⟩
theorem UU:∀ {rows:List (List C)},(∀ r∈rows,∃ o:OpV,r=opL o/\True)->∃ xs:List OpV,rows=Hk xs
 | [],_=>⟨[],rfl⟩
 | r :: rows,h=>by
  obtain ⟨xs,rfl⟩:=UU fun r' hr=>h r' (List.mem_cons_of_mem _ hr)
  obtain ⟨o,rfl,_⟩:=h r List.mem_cons_self
  exact ⟨o :: xs,rfl⟩
theorem zlJ:Opn enc Tryz.prog W 30 fun c=>∃ xs:List OpV,c = .sl 5 (Hk xs)/\True:=fun fuel cs x hx=>by
 obtain ⟨v,c,rfl,⟨rows,rfl,hl,hr⟩,h1,h2⟩:=Opn.slice (W:=W) (enc:=enc) Tryz.underlying30 (show Tryz.prog.cellsOf 63=5 by kernel_rfl) (by decide) zpP fuel cs x hx
 obtain ⟨xs,rfl⟩:=UU hr
 exact ⟨v,_,rfl,⟨xs,rfl,trivial⟩,h1,h2⟩
end
theorem zqE {W:World} {l:List (String×DataW Unit)} (h:laidMetH Tryz.prog l W) (hp:(l.filter fun x=>x.2.handleName?.isSome) = []) (hm:("drayman/op.has",Rows.laid_drayman_op_has)∈l):Xz G1 (MN W):=fun g cs hc=>by
 unfold G1 at hc
 split at hc
 ·rename_i hg
  subst hg
  cases hc
  exact JF (t:=181) h hp hm (by kernel_rfl) (by kernel_rfl) (m:=4) (by kernel_rfl) (by kernel_rfl) (by kernel_rfl)
 ·cases hc
theorem zp6 {W:World} {l:List (String×DataW Unit)} (h:laidMetH Tryz.prog l W) (hp:(l.filter fun x=>x.2.handleName?.isSome) = []) (hm1:("drayman/diag.phrases",Rows.laid_drayman_diag_phrases)∈l) (hm2:("drayman/args.kinds",Rows.laid_drayman_args_kinds)∈l) (hm3:("drayman/errs.messages",Rows.laid_drayman_errs_messages)∈l):Xz G2 (MN W):=fun g cs hc=>by
 unfold G2 at hc
 split at hc
 ·rename_i hg
  subst hg
  cases hc
  exact JF (t:=190) h hp hm1 (by kernel_rfl) (by kernel_rfl) (m:=4) (vs:=phr.map fun l=>Value.string ⟨l.toArray⟩) (by kernel_rfl) (by kernel_rfl) (by kernel_rfl)
 ·split at hc
  ·rename_i hg
   subst hg
   cases hc
   exact JF (t:=189) h hp hm2 (by kernel_rfl) (by kernel_rfl) (m:=4) (by kernel_rfl) (by kernel_rfl) (by kernel_rfl)
  ·split at hc
   ·rename_i hg
    subst hg
    cases hc
    exact JF (t:=231) h hp hm3 (by kernel_rfl) (by kernel_rfl) (m:=4) (vs:=zrs.map fun l=>Value.string ⟨l.toArray⟩) (by kernel_rfl) (by kernel_rfl) (by kernel_rfl)
   ·cases hc
theorem zrd {W:World} {l:List (String×DataW Unit)} (h:laidMetH Tryz.prog l W) (hp:(l.filter fun x=>x.2.handleName?.isSome) = []) (hm:("drayman/op.has",Rows.laid_drayman_op_has)∈l) (hm1:("drayman/diag.phrases",Rows.laid_drayman_diag_phrases)∈l) (hm2:("drayman/args.kinds",Rows.laid_drayman_args_kinds)∈l) (hm3:("drayman/errs.messages",Rows.laid_drayman_errs_messages)∈l):Xz GD (MN W):=fun g cs hc=>by
 unfold GD at hc
 split at hc
 ·exact zqE h hp hm g cs hc
 ·exact zp6 h hp hm1 hm2 hm3 g cs hc
end
section
structure zkj (x:zp):Prop where
 par:x.kind≠2->x.parent=0
 bare:x.kind=2->x.data = []
 nam:∀ e∈x.es,may e.name=true
 lnk:x.kind=3->1<=x.data.length/\x.data.length<=4095/\∀ b∈x.data,b≠0
 named:x.ino≠1->1<=x.links
 one:x.kind=2->x.ino≠1->x.links=1
 top:x.ino=1->x.parent=1
def zqa (rk:Int->Nat) (xs:List zp):Prop:=∀ y∈xs,∀ e∈y.es,(zh e.ino xs).kind=2->(zh e.ino xs).parent=y.ino/\rk y.ino<rk e.ino
structure FsR (f:FsV):Prop where
 node:∀ x∈f.xs,zkj x
 edge:∃ rk,zqa rk f.xs
 fit:(f.xs.length:Int)<=f.maxI/\(qd f.xs:Int)<=f.maxB
 lim:1<=f.maxI/\f.maxI<=1073741824/\0<=f.maxB/\f.maxB<=1073741824
theorem Ml {xs:List zp} (h:z7 xs) {x y:zp} (hx:x∈xs) (hy:y∈xs) (e:x.ino=y.ino):x=y:=by
 obtain ⟨i,hi,rfl⟩:=List.getElem_of_mem hx
 obtain ⟨j,hj,rfl⟩:=List.getElem_of_mem hy
 have hp:=List.pairwise_iff_getElem.1 h
 rcases Nat.lt_trichotomy i j with q | q | q
 ·have:=hp i j hi hj q;omega
 ·subst q;rfl
 ·have:=hp j i hj hi q;omega
theorem yk {xs:List zp} (h:z7 xs):(xs.map (·.ino)).Nodup:=by
 rw[List.Nodup,List.pairwise_map]
 exact List.Pairwise.imp (fun q e=>by omega) h
theorem ke {xs:List zp} {n p:Int}:(n,p)∈qp xs↔∃ y∈xs,∃ e∈y.es,e.ino=n/\y.ino=p:=by
 unfold qp
 rw[List.mem_flatMap]
 refine exists_congr fun y=>and_congr_right fun hy=>?_
 unfold Z4
 rw[List.mem_map]
 refine exists_congr fun e=>and_congr_right fun he=>?_
 rw[Prod.mk.injEq]
theorem zfF {n p:Int} {l:List (Int×Int)} (h1:1<=Q5 n l) (h:∀ q,(n,q)∈l->q=p):VV n l=p:=by
 unfold Q5 at h1
 unfold VV
 cases hq:(l.filter fun p=>p.1==n).getLast? with
 | none=>rw[List.getLast?_eq_none_iff]at hq;rw[hq]at h1;simp at h1
 | some r =>
  obtain ⟨h2,h3⟩:=List.mem_filter.1 (List.mem_of_getLast? hq)
  have h3:r.1=n:=by simpa using h3
  show r.2=p
  exact h r.2 (by rw[←h3];exact h2)
theorem zjE {es:List zZ}:∀ S:List Int,∃ t,kL S es=S++t:=by
 induction es with
 | nil=>exact fun S=>⟨[],by simp[kL]⟩
 | cons e r ih =>
  intro S
  obtain ⟨t,h⟩:=ih (Yr S e.ino)
  show ∃ t,kL (Yr S e.ino) r=S++t
  rw[h]
  unfold Yr
  split
  ·exact ⟨t,rfl⟩
  ·exact ⟨e.ino :: t,by simp⟩
theorem UB {xs:List zp} (h3:∀ x∈xs,∀ e∈x.es,zn e.ino xs=true):∀ (m i:Nat) (S:List Int),Yx xs S->(∀ j<i,∀ n,S[j]?=some n->∀ e∈(zh n xs).es,e.ino∈S)->xs.length+1<=m+i ->
  (∀ n∈S,n∈QY xs m i S)/\∀ n∈QY xs m i S,∀ e∈(zh n xs).es,e.ino∈QY xs m i S
 | 0,i,S,hS,hc,hm=>by
  have hl:=ZB hS.nodup hS.has
  show (∀ n∈S,n∈S)/\∀ n∈S,∀ e∈(zh n xs).es,e.ino∈S
  refine ⟨fun n h=>h,fun n hn e he=>?_⟩
  obtain ⟨j,hj,rfl⟩:=List.getElem_of_mem hn
  exact hc j (by omega) _ (List.getElem?_eq_getElem hj) e he
 | m+1,i,S,hS,hc,hm=>by
  unfold QY
  cases hg:S[i]? with
  | none =>
   have hi:=List.getElem?_eq_none_iff.1 hg
   show (∀ n∈S,n∈S)/\∀ n∈S,∀ e∈(zh n xs).es,e.ino∈S
   refine ⟨fun n h=>h,fun n hn e he=>?_⟩
   obtain ⟨j,hj,rfl⟩:=List.getElem_of_mem hn
   exact hc j (by omega) _ (List.getElem?_eq_getElem hj) e he
  | some n =>
   have hn:=hS.has n (List.mem_of_getElem? hg)
   have hi:=(List.getElem?_eq_some_iff.1 hg).1
   have hg':=zk hn
   obtain ⟨t,ht⟩:=zjE (es:=(zh n xs).es) S
   have hsub:∀ k∈S,k∈kL S (zh n xs).es:=fun k hk=>GG.2 (.inl hk)
   obtain ⟨r1,r2⟩:=UB h3 m (i+1) (kL S (zh n xs).es) (M9 hS fun e he=>h3 _ hg'.2.1 e he) (fun j hj k hk e he=>by
    rcases Nat.lt_or_ge j i with hji | hji
    ·have:S[j]?=some k:=by rw[ht,List.getElem?_append_left (by omega)]at hk;exact hk
     exact hsub _ (hc j hji k this e he)
    ·have:j=i:=by omega
     subst this
     rw[ht,List.getElem?_append_left hi,hg]at hk
     cases hk
     exact GG.2 (.inr ⟨e,he,rfl⟩)) (by omega)
   exact ⟨fun k hk=>r1 k (hsub k hk),r2⟩
theorem zfU {n:Int} {l:List (Int×Int)} (h:1<=Q5 n l):∃ p,(n,p)∈l:=by
 unfold Q5 at h
 obtain ⟨r,hr⟩:=List.exists_mem_of_length_pos (l:=l.filter fun p=>p.1==n) (by omega)
 obtain ⟨h1,h2⟩:=List.mem_filter.1 hr
 have h2:r.1=n:=by simpa using h2
 exact ⟨r.2,by rw[←h2];exact h1⟩
theorem FsR.links {f:FsV} (hi:FsI f) {x:zp} (hx:x∈f.xs):x.links=(Q5 x.ino (qp f.xs):Int):=by rw[X7];exact hi.links x hx
theorem GT {f:FsV} (hi:FsI f) {y:zp} (hy:y∈f.xs) {e:zZ} (he:e∈y.es):y.kind=2:=by
 by_cases h:y.kind=2
 ·exact h
 ·rw[hi.file y hy h]at he;cases he
theorem YT {f:FsV} (hi:FsI f) {x:zp} (hx:x∈f.xs):zh x.ino f.xs=x:=by
 have h:=YD hx
 have h2:=zk h
 exact Ml hi.rises h2.2.1 hx h2.2.2
theorem FsR.come {f:FsV} (hi:FsI f) (h:FsR f) {S:List Int} (h1:(1:Int)∈S) (hc:∀ n∈S,∀ e∈(zh n f.xs).es,e.ino∈S):∀ n,zn n f.xs=true->n∈S:=by
 obtain ⟨rk,hr⟩:=h.edge
 have dirs:∀ (k:Nat) (n:Int),rk n<=k->zn n f.xs=true->(zh n f.xs).kind=2->n∈S:=by
  intro k
  induction k with
  | zero =>
   intro n hk hn hd
   by_cases h0:n=1
   ·rw[h0];exact h1
   obtain ⟨g1,g2,g3⟩:=zk hn
   have hl:=(h.node _ g2).named (by rw[g3];exact h0)
   rw[FsR.links hi g2,g3]at hl
   obtain ⟨p,hp⟩:=zfU (n:=n) (l:=qp f.xs) (by omega)
   obtain ⟨y,hy,e,he,q1,q2⟩:=ke.1 hp
   have:=(hr y hy e he (by rw[q1];exact hd)).2
   rw[q1]at this;omega
  | succ k ih =>
   intro n hk hn hd
   by_cases h0:n=1
   ·rw[h0];exact h1
   obtain ⟨g1,g2,g3⟩:=zk hn
   have hl:=(h.node _ g2).named (by rw[g3];exact h0)
   rw[FsR.links hi g2,g3]at hl
   obtain ⟨p,hp⟩:=zfU (n:=n) (l:=qp f.xs) (by omega)
   obtain ⟨y,hy,e,he,q1,q2⟩:=ke.1 hp
   have hlt:=(hr y hy e he (by rw[q1];exact hd)).2
   rw[q1]at hlt
   have hs:=YT hi hy
   have:=ih y.ino (by omega) (YD hy) (by rw[hs];exact GT hi hy he)
   rw[←q1]
   exact hc y.ino this e (by rw[hs];exact he)
 intro n hn
 by_cases h0:n=1
 ·rw[h0];exact h1
 obtain ⟨g1,g2,g3⟩:=zk hn
 have hl:=(h.node _ g2).named (by rw[g3];exact h0)
 rw[FsR.links hi g2,g3]at hl
 obtain ⟨p,hp⟩:=zfU (n:=n) (l:=qp f.xs) (by omega)
 obtain ⟨y,hy,e,he,q1,q2⟩:=ke.1 hp
 have hs:=YT hi hy
 have:=dirs _ y.ino (Nat.le_refl _) (YD hy) (by rw[hs];exact GT hi hy he)
 rw[←q1]
 exact hc y.ino this e (by rw[hs];exact he)
theorem xH {es:List zZ} (hR:Jy es) (h1:∀ e∈es,may e.name=true) (h2:∀ e∈es,1<=e.ino):YV es:=fun i h =>
 ⟨h1 _ (List.getElem_mem h),h2 _ (List.getElem_mem h),fun h0=>List.pairwise_iff_getElem.1 hR (i-1) i (by omega) h (by omega)⟩
theorem FsR.check {f:FsV} (hi:FsI f) (h:FsR f) (hn:f.next<=1099511627776):JL f=0:=by
 have h1:Jv f:=⟨h.lim.1,h.lim.2.1,h.lim.2.2.1,h.lim.2.2.2,hn,hi.ino,hi.rises,hi.root,hi.base⟩
 have h2:YF f:=fun x hx=>⟨hi.kind x hx,fun hk=>⟨hi.file x hx hk,(h.node x hx).par hk⟩,fun hk=>⟨(h.node x hx).bare hk,xH (hi.es x hx) (h.node x hx).nam fun e he=>by
  have:=hi.led x hx e he
  have g:=zk this
  have:=(hi.ino _ g.2.1).1
  rw[g.2.2]at this;exact this⟩,(h.node x hx).lnk⟩
 have h3:Yt f:=hi.led
 obtain ⟨rk,hr⟩:=h.edge
 have h4:YO f:=fun x hx=>by
  have hl:=FsR.links hi hx
  refine ⟨hl,?_⟩
  by_cases h0:x.ino=1
  ·rw[if_pos h0,h0]
   exact ⟨by rw[X7];exact hi.bare,(h.node x hx).top h0⟩
  ·rw[if_neg h0]
   have hk:=(h.node x hx).named h0
   refine ⟨by omega,fun hd=>?_⟩
   have ho:=(h.node x hx).one hd h0
   refine ⟨by omega,(zfF (by omega) fun q hq=>?_).symm⟩
   obtain ⟨y,hy,e,he,q1,q2⟩:=ke.1 hq
   have:=(hr y hy e he (by rw[q1,YT hi hx];exact hd)).1
   rw[q1,YT hi hx]at this
   rw[←q2,this]
 have h5:QC f:=by
  have hS:Yx f.xs [1]:=⟨by simp,fun n hn=>by rw[List.mem_singleton.1 hn];exact hi.root⟩
  obtain ⟨r1,r2⟩:=UB hi.led (f.xs.length+1) 0 [1] hS (fun j hj=>absurd hj (Nat.not_lt_zero _)) (by omega)
  have hok:=(Nd hi.led (f.xs.length+1) 0 [1] hS (fun n hn=>by rw[List.mem_singleton.1 hn];exact ⟨0,.root⟩)).1
  have hall:=h.come hi (r1 1 (by simp)) r2
  have q1:=ZB hok.nodup hok.has
  have q2:=V4 (S:=f.xs.map (·.ino)) (yk hi.rises) fun n hn=>hall n (No.2 hn)
  rw[List.length_map]at q2
  exact Nat.le_antisymm q1 q2
 unfold JL
 rw[if_pos h1,if_pos h2,if_pos h3,if_pos h4,if_pos h5,if_pos (show kZ f from h.fit)]
open Classical in
theorem zew {f:FsV} (h:okV f):FsR f:=by
 obtain ⟨h0,h1,h2,h3,h4,h5,h6⟩:=qU h
 have hi:=M7 h.2
 refine ⟨fun x hx=>?_,?_,h6,h1.1,h1.2.1,h1.2.2.1,h1.2.2.2.1⟩
 ·obtain ⟨a1,a2,a3,a4⟩:=h2 x hx
  obtain ⟨b1,b2⟩:=h4 x hx
  refine ⟨fun hk=>(a2 hk).2,fun hk=>(a3 hk).1,fun e he=>?_,a4,fun hn=>?_,fun hk hn=>?_,fun hn=>?_⟩
  ·obtain ⟨i,hi',rfl⟩:=List.getElem_of_mem he
   exact ((a3 (GT hi hx he)).2 i hi').1
  ·rw[if_neg hn]at b2;rw[b1];omega
  ·rw[if_neg hn]at b2;rw[b1,(b2.2 hk).1];rfl
  ·rw[if_pos hn]at b2;exact b2.2
 ·refine ⟨fun n=>if hd:∃ k,Dep f.xs k n then hd.choose else 0,fun y hy e he hk=>?_⟩
  have hs:=YT hi hy
  have hh:=hi.led y hy e he
  have g:=zk hh
  have hyk:=GT hi hy he
  have hey:e∈(zh y.ino f.xs).es:=by rw[hs];exact he
  have hne:e.ino≠1:=Jh h (YD hy) hey
  constructor
  ·have b:=(h4 _ g.2.1).2
   rw[g.2.2,if_neg hne]at b
   obtain ⟨c1,c2⟩:=b.2 hk
   rw[c2]
   exact zfF (by omega) fun q hq=>(xX (ke.2 ⟨y,hy,e,he,rfl,rfl⟩) hq c1).symm
  ·obtain ⟨k,hd⟩:=yC h (YD hy)
   have hd2:=Dep.step hd (YD hy) hey
   have e1:∃ k,Dep f.xs k y.ino:=⟨k,hd⟩
   have e2:∃ k,Dep f.xs k e.ino:=⟨k+1,hd2⟩
   show (if hd:∃ k,Dep f.xs k y.ino then hd.choose else 0)<if hd:∃ k,Dep f.xs k e.ino then hd.choose else 0
   rw[dif_pos e1,dif_pos e2,Z7 h _ _ _ e1.choose_spec hd (YD hy) (by rw[hs];exact hyk),Z7 h _ _ _ e2.choose_spec hd2 hh hk]
   exact Nat.lt_succ_self k
end
section
def bN (x:zp):Nat:=if x.kind=1 then x.data.length else 0
theorem Yf:∀ xs:List zp,qd xs=Nv bN xs
 | []=>rfl
 | x :: r=>by
  have ih:=Yf r
  unfold qd Nv at ih ⊢
  rw[List.map_cons,List.sum_cons,←ih,List.filter_cons]
  unfold bN
  by_cases h:x.kind=1<;>simp[h]
theorem X9 {xs:List zp} (hR:z7 xs) {x:zp} (hh:zn x.ino xs=true):qd (qm x xs)+bN (zh x.ino xs)=qd xs+bN x:=by
 have:=VZ bN (x:=x) hR
 rw[(zk hh).1]at this
 rw[Yf,Yf];exact this
theorem Us {xs:List zp} (hR:z7 xs) {x:zp} (hh:zn x.ino xs=false):qd (qm x xs)=qd xs+bN x:=by
 have:=VZ bN (x:=x) hR
 rw[(xf hh).1]at this
 rw[Yf,Yf];exact this
theorem zbF {xs:List zp} (hR:z7 xs) (n:Int):qd (qj n xs)<=qd xs:=by
 have:=Zg bN (n:=n) hR
 rw[Yf,Yf];omega
theorem Y2 {xs:List zp} (hR:z7 xs) {n:Int} {F:List zZ->List zZ} (hh:zn n xs=true):qd (qk n F xs)=qd xs:=by
 have hg:=zk hh
 have:=X9 hR (x:=qi (zh n xs) (F (zh n xs).es)) (by show zn (zh n xs).ino xs=true;rw[hg.2.2];exact hh)
 have e:bN (zh (qi (zh n xs) (F (zh n xs).es)).ino xs)=bN (qi (zh n xs) (F (zh n xs).es)):=by
  show bN (zh (zh n xs).ino xs)=bN (zh n xs)
  rw[hg.2.2]
 rw[e]at this
 exact Nat.add_right_cancel this
theorem zkW {x:zp} {xs:List zp} (hR:z7 xs) (hh:zn x.ino xs=false):(qm x xs).length=xs.length+1:=by rw[←vw hR hh];simp;have:=zeS x.ino xs;omega
theorem zgq (n:Int) (xs:List zp):(qj n xs).length<=xs.length:=List.length_filter_le _ _
theorem zkj.turn {x:zp} (h:zkj x) {es:List zZ} (he:∀ e∈es,may e.name=true):zkj (qi x es):=⟨h.par,h.bare,he,h.lnk,h.named,h.one,h.top⟩
theorem jD {xs:List zp} {n m:Int} {F:List zZ->List zZ} (hh:zn n xs=true):(zh m (qk n F xs)).kind=(zh m xs).kind/\(zh m (qk n F xs)).parent=(zh m xs).parent/\(zh m (qk n F xs)).links=(zh m xs).links:=by
 rw[Jm hh]
 split
 ·subst_vars;exact ⟨rfl,rfl,rfl⟩
 ·exact ⟨rfl,rfl,rfl⟩
theorem FsR.like {f g:FsV} (h:FsR f) (hN:∀ z∈g.xs,zkj z) (hE:∀ z∈g.xs,∀ e∈z.es,(zh e.ino g.xs).kind=2->∃ y∈f.xs,y.ino=z.ino/\e∈y.es/\(zh e.ino f.xs).kind=2/\(zh e.ino g.xs).parent=(zh e.ino f.xs).parent)
  (h1:g.maxI=f.maxI) (h2:g.maxB=f.maxB) (hl:g.xs.length<=f.xs.length) (hb:(qd g.xs:Int)<=f.maxB):FsR g:=by
 obtain ⟨rk,hr⟩:=h.edge
 refine ⟨hN,⟨rk,fun z hz e he hk=>?_⟩,?_,by rw[h1,h2];exact h.lim⟩
 ·obtain ⟨y,hy,q1,q2,q3,q4⟩:=hE z hz e he hk
  have:=hr y hy e q2 q3
  rw[q4,←q1];exact this
 ·have:=h.fit
  rw[h1,h2];omega
theorem zny {f:FsV} (hi:FsI f) (h:FsR f) {s:qy} (hs:Jw f s) (hm:may s.name=true) {k:Int} {t:List UInt8} (hk:k=1∨k=2∨k=3) (hr:jS f 1 (if k=1 then (t.length:Int) else 0)=true) (h2:k=2->t = [])
  (h3:k=3->1<=t.length/\t.length<=4095/\∀ b∈t,b≠0):FsR (ko f s k t):=by
 obtain ⟨n1,n2⟩:=GC hi
 have hd:=zk hs.has
 have hlt:=xQ hi
 have hdn:s.dir≠f.next:=fun e=>by have:=hs.has;rw[e,n1]at this;cases this
 have hR1:z7 (qk s.dir (zN s.name f.next) f.xs):=z6 hi.rises
 have hn1:zn f.next (qk s.dir (zN s.name f.next) f.xs)=false:=by rw[zU hs.has];exact n1
 obtain ⟨rk,hrk⟩:=h.edge
 have hmem:∀ {z:zp},z∈(ko f s k t).xs->z=⟨f.next,k,1,t,if k=2 then s.dir else 0,[]⟩∨z=qi (zh s.dir f.xs) (zN s.name f.next (zh s.dir f.xs).es)∨(z∈f.xs/\z.ino≠s.dir):=fun {z} hz=>by
  rcases qx.1 hz with rfl | ⟨hz,_⟩
  ·exact .inl rfl
  ·exact .inr ((qA hs.has).1 hz)
 have hgot:∀ m,m≠f.next->(zh m (ko f s k t).xs).kind=(zh m f.xs).kind/\(zh m (ko f s k t).xs).parent=(zh m f.xs).parent:=fun m hm=>by
  have e:zh m (ko f s k t).xs=zh m (qk s.dir (zN s.name f.next) f.xs):=by
   show zh m (qm _ _)=_
   rw[qN,if_neg (fun e:f.next=m=>hm e.symm)]
  rw[e]
  exact ⟨(jD hs.has).1,(jD hs.has).2.1⟩
 have hgn:zh f.next (ko f s k t).xs=⟨f.next,k,1,t,if k=2 then s.dir else 0,[]⟩:=by
  show zh _ (qm _ _)=_
  rw[qN,if_pos rfl]
 refine ⟨fun z hz=>?_,⟨fun n=>if n=f.next then rk s.dir+1 else rk n,fun y hy e he hke=>?_⟩,?_,h.lim⟩
 ·rcases hmem hz with rfl | rfl | ⟨hz,_⟩
  ·exact ⟨fun q=>if_neg q,h2,fun e he=>(by cases he),h3,fun _=>Int.le_refl 1,fun _ _=>rfl,fun q=>by have q:f.next=1:=q;omega⟩
  ·exact (h.node _ hd.2.1).turn fun e he=>by
    rcases J0 he with rfl | he
    ·exact hm
    ·exact (h.node _ hd.2.1).nam e he
  ·exact h.node z hz
 ·have old:∀ y0∈f.xs,e∈y0.es->(zh e.ino (ko f s k t).xs).parent=y0.ino/\(if y0.ino=f.next then rk s.dir+1 else rk y0.ino)<(if e.ino=f.next then rk s.dir+1 else rk e.ino):=fun y0 hy0 he0=>by
   have hne:=n2 y0 hy0 e he0
   obtain ⟨g1,g2⟩:=hgot e.ino hne
   rw[g1]at hke
   have:=hrk y0 hy0 e he0 hke
   rw[g2,if_neg hne,if_neg (fun q=>by have:=(hi.ino y0 hy0).2;omega)]
   exact this
  rcases hmem hy with rfl | rfl | ⟨hy,_⟩
  ·cases he
  ·rcases J0 he with rfl | he
   ·rw[hgn]at hke ⊢
    have hke:k=2:=hke
    show (if k=2 then s.dir else 0)=(zh s.dir f.xs).ino/\_
    rw[if_pos hke,hd.2.2]
    refine ⟨rfl,?_⟩
    show (if s.dir=f.next then _ else rk s.dir)<if f.next=f.next then _ else _
    rw[if_neg hdn,if_pos rfl]
    exact Nat.lt_succ_self _
   ·exact old (zh s.dir f.xs) hd.2.1 he
  ·exact old y hy he
 ·unfold jS at hr
  simp only[Bool.and_eq_true,decide_eq_true_eq]at hr
  have hl:(ko f s k t).xs.length=f.xs.length+1:=by
   show (qm _ _).length=_
   rw[zkW hR1 hn1,qP hi.rises hs.has]
  have hb:qd (ko f s k t).xs=qd f.xs+bN ⟨f.next,k,1,t,if k=2 then s.dir else 0,[]⟩:=by
   show qd (qm _ _)=_
   rw[Us hR1 hn1,Y2 hi.rises hs.has]
  rw[hl,hb]
  show ((f.xs.length+1:Nat):Int)<=f.maxI/\((qd f.xs+(if k=1 then t.length else 0):Nat):Int)<=f.maxB
  split at hr<;>(rename_i hq;simp only[hq,if_true,if_false];omega)
theorem znw {f:FsV} (hi:FsI f) (h:FsR f) {i:Int} (hh:zn i f.xs=true) (hk:(zh i f.xs).kind=1) {t:List UInt8} (hr:jS f 0 ((t.length:Int)-(zh i f.xs).data.length)=true):FsR (YS f i t):=by
 have hx:=zk hh
 have hhi:zn ({ zh i f.xs with data:=t }:zp).ino f.xs=true:=by show zn (zh i f.xs).ino f.xs=true;rw[hx.2.2];exact hh
 have hn:=h.node _ hx.2.1
 have hgot:∀ m,(zh m (YS f i t).xs).kind=(zh m f.xs).kind/\(zh m (YS f i t).xs).parent=(zh m f.xs).parent:=fun m=>by
  show (zh m (qm _ _)).kind=_/\_
  unfold YS
  simp only[qN,hx.2.2]
  split
  ·subst_vars;exact ⟨rfl,rfl⟩
  ·exact ⟨rfl,rfl⟩
 unfold jS at hr
 simp only[Bool.and_eq_true,decide_eq_true_eq]at hr
 refine h.like (fun z hz=>?_) (fun z hz e he hke=>?_) rfl rfl ?_ ?_
 ·rcases qx.1 hz with rfl | ⟨hz,_⟩
  ·exact ⟨hn.par,fun q=>by have q:(zh i f.xs).kind=2:=q;omega,hn.nam,fun q=>by have q:(zh i f.xs).kind=3:=q;omega,hn.named,hn.one,hn.top⟩
  ·exact h.node z hz
 ·rw[(hgot _).1]at hke
  rcases qx.1 hz with rfl | ⟨hz,_⟩
  ·exact ⟨_,hx.2.1,rfl,he,hke,(hgot _).2⟩
  ·exact ⟨z,hz,rfl,he,hke,(hgot _).2⟩
 ·show (qm _ _).length<=_
  rw[JH hi.rises hhi];exact Nat.le_refl _
 ·have:=X9 hi.rises hhi
  have e1:bN (zh ({ zh i f.xs with data:=t }:zp).ino f.xs)=(zh i f.xs).data.length:=by
   show bN (zh (zh i f.xs).ino f.xs)=_
   rw[hx.2.2];unfold bN;rw[if_pos hk]
  have e2:bN { zh i f.xs with data:=t }=t.length:=by unfold bN;rw[if_pos hk]
  rw[e1,e2]at this
  show (qd (qm _ _):Int)<=_
  omega
theorem zoG {f:FsV} (hi:FsI f) (h:FsR f) {s:qy} (hs:Jw f s) (hm:may s.name=true) {i:Int} (hh:zn i f.xs=true) (hk:(zh i f.xs).kind≠2):FsR (X3 f s i):=by
 have hd:=zk hs.has
 have hx:=zk hh
 have hn:=h.node _ hx.2.1
 have hR1:z7 (qk s.dir (zN s.name i) f.xs):=z6 hi.rises
 have hhi:zn ({ zh i f.xs with links:=(zh i f.xs).links+1 }:zp).ino (qk s.dir (zN s.name i) f.xs)=true:=by rw[zU hs.has];show zn (zh i f.xs).ino f.xs=true;rw[hx.2.2];exact hh
 have hgot:∀ m,(zh m (X3 f s i).xs).kind=(zh m f.xs).kind/\(zh m (X3 f s i).xs).parent=(zh m f.xs).parent:=fun m=>by
  unfold X3
  simp only[qN,hx.2.2]
  split
  ·subst_vars;exact ⟨rfl,rfl⟩
  ·exact ⟨(jD hs.has).1,(jD hs.has).2.1⟩
 refine h.like (fun z hz=>?_) (fun z hz e he hke=>?_) rfl rfl ?_ ?_
 ·rcases qx.1 hz with rfl | ⟨hz,_⟩
  ·exact ⟨hn.par,hn.bare,hn.nam,hn.lnk,fun q=>by have:=hn.named q;show 1<=(zh i f.xs).links+1;omega,fun q=>absurd q hk,hn.top⟩
  ·rcases (qA hs.has).1 hz with rfl | ⟨hz,_⟩
   ·exact (h.node _ hd.2.1).turn fun e he=>by
     rcases J0 he with rfl | he
     ·exact hm
     ·exact (h.node _ hd.2.1).nam e he
   ·exact h.node z hz
 ·rw[(hgot _).1]at hke
  rcases qx.1 hz with rfl | ⟨hz,_⟩
  ·exact ⟨_,hx.2.1,rfl,he,hke,(hgot _).2⟩
  ·rcases (qA hs.has).1 hz with rfl | ⟨hz,_⟩
   ·rcases J0 he with rfl | he
    ·exact absurd hke hk
    ·exact ⟨_,hd.2.1,rfl,he,hke,(hgot _).2⟩
   ·exact ⟨z,hz,rfl,he,hke,(hgot _).2⟩
 ·show (qm _ _).length<=_
  rw[JH hR1 hhi,qP hi.rises hs.has];exact Nat.le_refl _
 ·have:=X9 hR1 hhi
  have e1:bN (zh ({ zh i f.xs with links:=(zh i f.xs).links+1 }:zp).ino (qk s.dir (zN s.name i) f.xs))=bN { zh i f.xs with links:=(zh i f.xs).links+1 }:=by
   show bN (zh (zh i f.xs).ino _)=_
   rw[hx.2.2,Jm hs.has]
   split
   ·rename_i hq
    exact absurd (by rw[←hq];exact hs.kind) hk
   ·rfl
  rw[e1,Y2 hi.rises hs.has]at this
  show (qd (qm _ _):Int)<=_
  have:=h.fit.2
  omega
theorem zjL {f:FsV} (hi:FsI f) (h:FsR f) {s:qy} (hs:zR f s) (he:(zh s.ino f.xs).es = []):FsR (zD f s):=by
 have hok:=U2 hi hs he
 have hd:=zk hs.has
 have hh:=zR.ino hi hs
 have hx:=zk hh
 have hn:=h.node _ hx.2.1
 have hne:s.dir≠s.ino:=fun e=>by
  have:=(qJ hs.there).2
  rw[e,he]at this
  cases this
 have hr1:=Qg hi hs
 have hR1:z7 (qk s.dir (zj s.name) f.xs):=z6 hi.rises
 have hdn:zkj (qi (zh s.dir f.xs) (zj s.name (zh s.dir f.xs).es)):=(h.node _ hd.2.1).turn fun e he=>(h.node _ hd.2.1).nam e (ja he).1
 by_cases hl:(zh s.ino f.xs).links-1=0
 ·have e0:zD f s = { f with xs:=qj s.ino (qk s.dir (zj s.name) f.xs) }:=by unfold zD;rw[if_pos hl]
  rw[e0]at hok ⊢
  refine h.like (fun z hz=>?_) (fun z hz e he hke=>?_) rfl rfl ?_ ?_
  ·rcases (qA hs.has).1 (XN.1 hz).1 with rfl | ⟨hz,_⟩
   ·exact hdn
   ·exact h.node z hz
  ·have hee:e.ino≠s.ino:=fun q=>by
    have:=hok.led z hz e he
    rw[XX,q]at this
    simp at this
   have hg:zh e.ino (qj s.ino (qk s.dir (zj s.name) f.xs))=zh e.ino (qk s.dir (zj s.name) f.xs):=by rw[U4,if_neg hee]
   show ∃ y∈f.xs,y.ino=z.ino/\e∈y.es/\_/\(zh e.ino (qj s.ino _)).parent=_
   have hke:(zh e.ino (qj s.ino (qk s.dir (zj s.name) f.xs))).kind=2:=hke
   rw[hg,(jD hs.has).1]at hke
   rw[hg,(jD hs.has).2.1]
   rcases (qA hs.has).1 (XN.1 hz).1 with rfl | ⟨hz,_⟩
   ·exact ⟨_,hd.2.1,rfl,(ja he).1,hke,rfl⟩
   ·exact ⟨z,hz,rfl,he,hke,rfl⟩
  ·exact Nat.le_trans (zgq _ _) (by rw[qP hi.rises hs.has];exact Nat.le_refl _)
  ·have:=zbF hR1 s.ino
   rw[Y2 hi.rises hs.has]at this
   have:=h.fit.2
   show (qd (qj _ _):Int)<=_
   omega
 ·have e0:zD f s = { f with xs:=qm { zh s.ino f.xs with links:=(zh s.ino f.xs).links-1 } (qk s.dir (zj s.name) f.xs) }:=by unfold zD;rw[if_neg hl]
  rw[e0]at hok ⊢
  have hhi:zn ({ zh s.ino f.xs with links:=(zh s.ino f.xs).links-1 }:zp).ino (qk s.dir (zj s.name) f.xs)=true:=by rw[zU hs.has];show zn (zh s.ino f.xs).ino f.xs=true;rw[hx.2.2];exact hh
  have hgot:∀ m,(zh m (qm { zh s.ino f.xs with links:=(zh s.ino f.xs).links-1 } (qk s.dir (zj s.name) f.xs))).kind=(zh m f.xs).kind/\(zh m (qm { zh s.ino f.xs with links:=(zh s.ino f.xs).links-1 } (qk s.dir (zj s.name) f.xs))).parent=(zh m f.xs).parent:=fun m=>by
   simp only[qN,hx.2.2]
   split
   ·subst_vars;exact ⟨rfl,rfl⟩
   ·exact ⟨(jD hs.has).1,(jD hs.has).2.1⟩
  have hnm:=hn.named (by rw[hx.2.2];exact hr1)
  refine h.like (fun z hz=>?_) (fun z hz e he hke=>?_) rfl rfl ?_ ?_
  ·rcases qx.1 hz with rfl | ⟨hz,_⟩
   ·exact ⟨hn.par,hn.bare,hn.nam,hn.lnk,fun q=>by show 1<=(zh s.ino f.xs).links-1;omega,fun q1 q2=>by have:=hn.one q1 q2;omega,hn.top⟩
   ·rcases (qA hs.has).1 hz with rfl | ⟨hz,_⟩
    ·exact hdn
    ·exact h.node z hz
  ·have hke:(zh e.ino (qm { zh s.ino f.xs with links:=(zh s.ino f.xs).links-1 } (qk s.dir (zj s.name) f.xs))).kind=2:=hke
   rw[(hgot _).1]at hke
   rcases qx.1 hz with rfl | ⟨hz,_⟩
   ·exact ⟨_,hx.2.1,rfl,he,hke,(hgot _).2⟩
   ·rcases (qA hs.has).1 hz with rfl | ⟨hz,_⟩
    ·exact ⟨_,hd.2.1,rfl,(ja he).1,hke,(hgot _).2⟩
    ·exact ⟨z,hz,rfl,he,hke,(hgot _).2⟩
  ·show (qm _ _).length<=_
   rw[JH hR1 hhi,qP hi.rises hs.has];exact Nat.le_refl _
  ·have:=X9 hR1 hhi
   have e1:bN (zh ({ zh s.ino f.xs with links:=(zh s.ino f.xs).links-1 }:zp).ino (qk s.dir (zj s.name) f.xs))=bN { zh s.ino f.xs with links:=(zh s.ino f.xs).links-1 }:=by
    show bN (zh (zh s.ino f.xs).ino _)=_
    rw[hx.2.2,Jm hs.has,if_neg hne]
    rfl
   rw[e1,Y2 hi.rises hs.has]at this
   show (qd (qm _ _):Int)<=_
   have:=h.fit.2
   omega
end
end Go.Proofs.YtiblepfehggicaaGreatDoor.Vcg
